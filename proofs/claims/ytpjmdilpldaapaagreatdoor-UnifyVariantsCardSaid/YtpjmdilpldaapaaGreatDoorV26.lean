/- Urvar, Uvp, Usim, Urdig, Uapart, Urfresh, Urvars (joined by shake.py). -/
import Derived.Test.YtpjmdilpldaapaaGreatDoorV5
import Derived.Test.YtpjmdilpldaapaaGreatDoorV6
import Derived.Test.YtpjmdilpldaapaaGreatDoorV12
import Derived.Test.YtpjmdilpldaapaaGreatDoorV15
import Derived.Test.YtpjmdilpldaapaaGreatDoorV21
import Derived.Test.YtpjmdilpldaapaaGreatDoorV22
import Derived.Test.YtpjmdilpldaapaaGreatDoorV23
import Derived.Test.YtpjmdilpldaapaaGreatDoorV25
import Derived.Lib.ItoaNum
import Derived.Laws.BytesArg
set_option maxRecDepth 100000
namespace Go.Proofs.YtpjmdilpldaapaaGreatDoor
open Go.RowKit Go.Sort
theorem qk2 (p t : Tm) (P T : Option Addr) (cp ct : Nat) (w : World) (hvp : p.valid = 0) (hvt : t.valid = 0) (hrp : RepT w w.heap.size p P cp) (hrt : RepT w w.heap.size t T ct) :
  Calls Tryz.prog 49 #[p.val P cp, t.val T ct, .slice none 0 0] w fun e w' => ∃ A c, e = .returned (.tuple #[.slice A (p.col t []).1.length c, .bool (p.col t []).2]) ∧ RepB w' (fun b => b < w'.heap.size) (p.col t []).1 A c ∧ Below w.heap.size w w' := by
 have sp := qak hvp;have RM := qm2 w.heap.size w.heap.size (Nat.le_refl _) p.size p t P T cp ct none 0 [] w (Nat.le_refl _) hvp hvt (by simp; omega) (Nat.le_refl _) (RowG.nil _ _ _ _) hrp hrt;refine RM.mono ?_;rintro e w2 ⟨A2, c2, its2, rfl, hm2, hn2, hr2, hb2, ho2, -⟩;obtain ⟨A2', c2', hv2, hrep2⟩ := hr2.toB (P := fun b => b < w2.heap.size) (fun b _ h _ => h) (fun b h => (hr2.lt b h).2);injection hv2 with g1 g2 g3;clear g2;subst g1 g3;have hm3 : its2.map IB.bd = (p.col t []).1 := hm2;rw [hm3] at hrep2;have hl : its2.length = (p.col t []).1.length := by rw [← hm3, List.length_map]
 exact ⟨A2, c2, by rw [hl]; rfl, hrep2, hb2⟩
theorem col_bound {p t : Tm} (hvp : p.valid = 0) (hvt : t.valid = 0) (h : (p.col t []).2 = true) : qhs (p.col t []).1 := fun b hb => by
 rcases (qje p t [] hvp hvt h).1 b hb with h1 | ⟨-, -, h1, h2, -⟩
 ·cases h1
 ·exact ⟨Nat.le_trans (qak h1) (by omega), Nat.le_trans (qak h2) (by omega)⟩
mutual
theorem col_len : ∀ (p t : Tm) (m : List Bd), (p.col t m).1.length ≤ m.length + p.size
 | .mk k n s l, t, m => by
  have hs : (Tm.mk k n s l).size = 1 + Tm.sizes l := qhy _;rw [Tm.col]
  split
  ·rw [List.length_append, hs]; simp
  ·split
   ·exact Nat.le_add_right _ _
   ·split
    ·have := qmm l t.kids m;omega
    ·exact Nat.le_add_right _ _
theorem qmm : ∀ (l r : List Tm) (m : List Bd), (Tm.cols l r m).1.length ≤ m.length + Tm.sizes l
 | [], r, m => by rw [Tm.cols]; exact Nat.le_add_right _ _; simp
 | p :: l, [], m => by rw [Tm.cols]; exact Nat.le_add_right _ _; simp
 | p :: l, t :: r, m => by
  have h1 := col_len p t m;rw [Tm.cols, Tm.sizes]
  split
  ·have h2 := qmm l r (Tm.col p t m).1;omega
  ·show (p.col t m).1.length ≤ _;omega
end
attribute [local irreducible] qaz
set_option linter.unusedSimpArgs false in
set_option linter.unusedVariables false in
set_option maxHeartbeats 8000000 in
theorem qhz (t u : Tm) (T U : Option Addr) (ct cu : Nat) (w : World) (b1 b2 : Nat) (hvt : t.valid = 0) (hvu : u.valid = 0) (h1 : BoxT w b1 t T ct) (h2 : BoxT w b2 u U cu) :
  Calls Tryz.prog 60 #[.slice (some ⟨b1, 0, none⟩) 1 1, .slice (some ⟨b2, 0, none⟩) 1 1] w fun e w' => e = .returned (.bool (t.vrt u []).2) ∧ Below w.heap.size w w' := by
 have mixed : Tryz.prog.follows .mixedOrders = true := by kernel_rfl
 have HF := Lib.hid (show qab w [.box b1 t T ct, .box b2 u U cu] w from ⟨h1, h2, Below.refl _ _⟩);obtain ⟨r, hr⟩ : ∃ r : Bool, r = true ↔ oneR (t.col u []).1 := ⟨@decide _ (Classical.propDecidable _), @decide_eq_true_iff _ (Classical.propDecidable _)⟩;have hcv := col_vrt hvt hvu;obtain ⟨v, hv⟩ : ∃ v, v = (t.vrt u []).2 := ⟨_, rfl⟩;rw [← hv] at hcv ⊢;have RM : ∀ Z : World, RepT Z Z.heap.size t T ct → RepT Z Z.heap.size u U cu → Calls Tryz.prog 49 #[t.val T ct, u.val U cu, .slice none 0 0] Z fun e w' => ∃ A c, e = .returned (.tuple #[.slice A (t.col u []).1.length c, .bool (t.col u []).2]) ∧ RepB w' (fun b => b < w'.heap.size) (t.col u []).1 A c ∧ Below Z.heap.size Z w' := fun Z a b => qk2 t u T U ct cu Z hvt hvu a b;have hsb : (t.col u []).2 = true → qhs (t.col u []).1 := fun h => col_bound hvt hvu h
 have hcl : (t.col u []).1.length ≤ 1000000 := by have := col_len t u []; have := qak hvt; simp at *; omega
 obtain ⟨q, hq⟩ : ∃ q, q = t.col u [] := ⟨_, rfl⟩;rw [← hq] at hr hcv RM hsb hcl;obtain ⟨q1, q2⟩ := q;dsimp only at hr hcv RM hsb hcl;have HR := Lib.hid hr;have HCV := Lib.hid hcv;have RM := Lib.hid RM;have HSB := Lib.hid hsb;clear hr hcv hsb hq hv h1 h2;go_enter Tryz.func60, Tryz.ntmps60
 go_wp2_with fail
 refine wp_loop_rounds 2 ?_;rw [rounds_succ];go_wp2_with fail
 refine qai (fun _ => True) (fun Y => Below w.drew.heap.size w.drew Y) [] (.held 0 (.held 1 (.held 2 (.held 3 (.held 4 (.held 5 (.held 6 (.held 7 (.held 8 (.op 9 (.held 10 (.held 11 (.held 12 (.held 13 (.held 14 .nil))))))))))))))) mixed (by kernel_rfl) ?_;have HD2 := Lib.hid (qab.below (V' := w.drew) (Below.refl _ _).drew HF.out);have HD2b := Lib.hid HD2.out.rebase;generalize w.drew = D1 at *;refine qaa (v := .slice (some ⟨b1, 0, none⟩) 1 1) rfl rfl rfl (fun _ _ _ h => h) trivial (qab.bel HD2b.out) (fun Y _ _ => by (try simp only [Act.put]); go_simp) ?_;refine qaa (v := .int .i64 0) rfl rfl rfl (fun _ _ _ h => h) trivial (qab.bel HD2b.out) (fun Y _ _ => by (try simp only [Act.put]); go_simp) ?_
 refine qaa (v := .pointer (some ⟨b1, 0, none⟩)) rfl rfl rfl (fun _ _ _ h => h) trivial (qab.bel HD2b.out) (fun Y _ _ => by (try simp only [Act.put]); go_simp) ?_;refine qaa (v := .agg #[.int .i64 t.kind, .string t.name, .int .i64 t.sort, .slice T t.kids.length ct]) rfl rfl rfl (fun _ _ _ h => h) trivial (qab.bel HD2b.out) (fun Y _ hY => by
  obtain ⟨z0, z1, z2, z3, -⟩ := BoxT.cells ((show BoxT D1 _ _ _ _ from HD2.out.1).below hY)
  (try simp only [Act.put]); go_simp) ?_
 simp only [Act.put, List.setIfInBounds_toArray, List.set_cons_succ, List.set_cons_zero, List.getElem_toArray, List.getElem_cons_succ, List.getElem_cons_zero];refine qaa (v := .slice (some ⟨b2, 0, none⟩) 1 1) rfl rfl rfl (fun _ _ _ h => h) trivial (qab.bel HD2b.out) (fun Y _ _ => by (try simp only [Act.put]); go_simp) ?_;refine qaa (v := .int .i64 0) rfl rfl rfl (fun _ _ _ h => h) trivial (qab.bel HD2b.out) (fun Y _ _ => by (try simp only [Act.put]); go_simp) ?_;refine qaa (v := .pointer (some ⟨b2, 0, none⟩)) rfl rfl rfl (fun _ _ _ h => h) trivial (qab.bel HD2b.out) (fun Y _ _ => by (try simp only [Act.put]); go_simp) ?_;refine qaa (v := .agg #[.int .i64 u.kind, .string u.name, .int .i64 u.sort, .slice U u.kids.length cu]) rfl rfl rfl (fun _ _ _ h => h) trivial (qab.bel HD2b.out) (fun Y _ hY => by
  obtain ⟨z0, z1, z2, z3, -⟩ := BoxT.cells ((show BoxT D1 _ _ _ _ from HD2.out.2.1).below hY)
  (try simp only [Act.put]); go_simp) ?_
 simp only [Act.put, List.setIfInBounds_toArray, List.set_cons_succ, List.set_cons_zero, List.getElem_toArray, List.getElem_cons_succ, List.getElem_cons_zero];refine qaa (v := .slice none 0 0) rfl rfl rfl (fun _ _ _ h => h) trivial (qab.bel HD2b.out) (fun Y _ _ => by (try simp only [Act.put]); go_simp) ?_;simp only [Act.put, List.setIfInBounds_toArray, List.set_cons_succ, List.set_cons_zero, List.getElem_toArray, List.getElem_cons_succ, List.getElem_cons_zero];refine qac rfl rfl (fun K hK => ?_);have C3 := RM.out D1 (HD2b.out.1).2 (HD2b.out.2.1).2;simp only [Tm.val] at C3;have C3 := Lib.hid C3;go_wp2_with fail
 refine C3.out.mono ?_; clear C3;rintro e w4 ⟨A5, c6, rfl, hr7, hb8⟩;have HF9 := Lib.hid ((qab.below hb8 HD2b.out).add (.binds q1 A5 c6) hr7);refine hK _ _ ⟨⟨fun _ => trivial, qab.bel HF9.out⟩, ?_⟩;clear hK K;clear HD2b;clear hr7 hb8;refine qaa (v := .tuple #[.slice A5 q1.length c6, .bool q2]) rfl rfl rfl (fun _ _ _ h => h) trivial (qab.bel HF9.out) (fun Y _ _ => by (try simp only [Act.put]); go_simp) ?_;refine qaa (v := .slice A5 q1.length c6) rfl rfl rfl (fun _ _ _ h => h) trivial (qab.bel HF9.out) (fun Y _ _ => by (try simp only [Act.put]); go_simp) ?_;refine qaa (v := .bool q2) rfl rfl rfl (fun _ _ _ h => h) trivial (qab.bel HF9.out) (fun Y _ _ => by (try simp only [Act.put]); go_simp) ?_;refine qaa (v := .slice A5 q1.length c6) rfl rfl rfl (fun _ _ _ h => h) trivial (qab.bel HF9.out) (fun Y _ _ => by (try simp only [Act.put]); go_simp) ?_
 simp only [Act.put, List.setIfInBounds_toArray, List.set_cons_succ, List.set_cons_zero, List.getElem_toArray, List.getElem_cons_succ, List.getElem_cons_zero];refine qaa (v := .bool q2) rfl rfl rfl (fun _ _ _ h => h) trivial (qab.bel HF9.out) (fun Y _ _ => by (try simp only [Act.put]); go_simp) ?_;simp only [Act.put, List.setIfInBounds_toArray, List.set_cons_succ, List.set_cons_zero, List.getElem_toArray, List.getElem_cons_succ, List.getElem_cons_zero];refine qaj ?_;have HFM := Lib.hid (show qab w [.binds q1 A5 c6] w4 from ⟨HF9.out.1, Below.trans (qab.bel HD2.out) (Below.mono (qab.bel HF9.out) (Below.size (qab.bel HD2.out)))⟩);clear HF9 HD2 RM
 cases q2 with
 | false =>
  have hv : v = false := by
   cases v with
   | false => rfl
   | true => exact absurd (HCV.out.2 rfl).1 (by simp)
  subst hv;go_wp2_with fail
  rw [rounds_succ];go_wp2_with fail
  go_ret
  exact ⟨rfl, HFM.out.2⟩
 | true =>
  have hv : v = r := by
   rw [Bool.eq_iff_iff];exact ⟨fun h => HR.out.2 (HCV.out.2 h).2, fun h => HCV.out.1 ⟨rfl, HR.out.1 h⟩⟩
  subst hv;have RO := rone_any q1 A5 c6 w4 hcl (HSB.out rfl) HFM.out.1 v HR.out;have RO := Lib.hid RO;go_wp2_with fail
  rw [rounds_succ];go_wp2_with fail
  refine RO.out.mono ?_;rintro e w9 ⟨rfl, hb9⟩;have hbw := HFM.out.2;go_wp2_with fail
  go_ret
  exact ⟨rfl, qad hbw hb9 hbw.size⟩
def vrtE (t u : Tm) : Bool := if qbg t u = 0 then (t.vrt u []).2 else false
set_option linter.unusedSimpArgs false in
set_option linter.unusedVariables false in
set_option maxHeartbeats 8000000 in
theorem qjy (t u : Tm) (T U : Option Addr) (ct cu : Nat) (w : World) (ht : t.size ≤ 1000000) (hu : u.size ≤ 1000000) (hrt : RepT w w.heap.size t T ct) (hru : RepT w w.heap.size u U cu) :
  Calls Tryz.prog 32 #[t.val T ct, u.val U cu] w fun e w' => e = .returned (.bool (vrtE t u)) ∧ Below w.heap.size w w' := by
 have HF := Lib.hid (show qab w [] w from Below.refl _ _);obtain ⟨V, hV⟩ : ∃ V, V = (w.alloc (qbc t T ct)).alloc (qbc u U cu) := ⟨_, rfl⟩;have hA := HF.out.boxes2 hrt hru;rw [← hV] at hA;obtain ⟨b0, hb0⟩ : ∃ b, b = w.heap.size := ⟨_, rfl⟩;simp only [qbc] at hV;have HV := Lib.hid hV;rw [← hb0] at hA;have HA := Lib.hid hA;have VV := both_any t u T U ct cu V ht hu HA.out.2.1.2 HA.out.1.2;obtain ⟨v2, hv2⟩ : ∃ v, v = qbg t u := ⟨_, rfl⟩;obtain ⟨q, hq⟩ : ∃ q, q = vrtE t u := ⟨_, rfl⟩;rw [← hq];unfold vrtE at hq;rw [← hv2] at VV hq;have HQ := Lib.hid hq;have HV2 := Lib.hid hv2;obtain ⟨a0, a1, a2, a3, -⟩ := BoxT.cells HA.out.2.1;obtain ⟨c0, c1, c2, c3, -⟩ := BoxT.cells HA.out.1;clear hV hA HF hq hv2 hrt hru;simp only [Tm.val] at VV ⊢;have VV := Lib.hid VV;have hbw : w.heap.size ≤ b0 := by omega
 go_enter Tryz.func32, Tryz.ntmps32
 go_wp2_with fail
 rw [← HV.out, ← hb0];clear HV hb0
 try go_wp2_with fail
 refine VV.out.mono ?_; clear VV a0 a1 a2 a3 c0 c1 c2 c3;rintro e w1 ⟨rfl, hl1⟩;have HB := Lib.hid (qab.below hl1.below HA.out); clear HA hl1;rcases eq_facts v2 0 with ⟨e0, e1, n1⟩ | ⟨e0, e1, n1⟩
 rotate_left
 ·have hq := HQ.out.trans (if_neg e0);subst hq;clear HQ;go_wp2_with fail
  go_ret
  exact ⟨rfl, qab.bel HB.out⟩
 have HQ2 := Lib.hid (HQ.out.trans (if_pos e0)); clear HQ;have hvt := qdo (HV2.out.symm.trans e0);clear e0;obtain ⟨Z, hZ⟩ : ∃ Z, Z = (w1.alloc (qbc t T ct)).alloc (qbc u U cu) := ⟨_, rfl⟩;have hC := HB.out.boxes2 HB.out.2.1.2 HB.out.1.2;rw [← hZ] at hC;simp only [qbc] at hZ;have HZ := Lib.hid hZ;have HC := Lib.hid hC;have RV := qhz t u T U ct cu Z w1.heap.size (w1.heap.size + 1) hvt.1 hvt.2 HC.out.2.1 HC.out.1;rw [← HQ2.out] at RV;have RV := Lib.hid RV;obtain ⟨a0, a1, a2, a3, -⟩ := BoxT.cells HB.out.2.1;obtain ⟨c0, c1, c2, c3, -⟩ := BoxT.cells HB.out.1;obtain ⟨d0, d1, d2, d3, -⟩ := BoxT.cells (HB.out.boxed HB.out.2.1.2).2.1;simp only [qbc] at d0 d1 d2 d3;clear hZ hC hvt;go_wp2_with fail
 rw [← HZ.out];refine RV.out.mono ?_; clear RV a0 a1 a2 a3 c0 c1 c2 c3 d0 d1 d2 d3;rintro e w9 ⟨rfl, hb9⟩;have HD := Lib.hid (qab.below hb9 HC.out);clear HB HC HZ HQ2 HV2;go_wp2_with fail
 go_ret
 exact ⟨rfl, qab.bel HD.out⟩
end Go.Proofs.YtpjmdilpldaapaaGreatDoor
namespace Go.Proofs.YtpjmdilpldaapaaGreatDoor
open Go.RowKit Go.Sort Go.Maps
theorem qi1 (tb kb B : Nat) (hB : B ≤ tb ∧ B ≤ kb) (hne : tb ≠ kb) (t u : Tm) (A A' : Option Addr) (ca cb : Nat) (w : World) (hvt : t.valid = 0) (hvu : u.valid = 0) (hsz : t.size ≤ 1000000)
  (hm1 : MapI w tb 0 []) (hm2 : MapI w kb 0 []) (hra : RepP w (fun k => k < B) t A ca) (hrb : RepP w (fun k => k < B) u A' cb) :
  Calls Tryz.prog 59 #[t.val A ca, u.val A' cb, .map (some tb), .map (some kb)] w fun e w' => e = .returned (.bool (t.vrt u []).2) ∧ Below B w w' :=
 (qhw tb kb B hB hne (qiz tb kb B hB hne) t.size t u A A' ca cb [] 0 0 0 w (Nat.le_refl _) hvt hvu (Nat.le_refl _) (Nat.le_refl _) (by omega) hm1 hm2 hra hrb).mono fun _ _ h => ⟨h.1, h.2.2.1⟩
set_option linter.unusedSimpArgs false in
set_option linter.unusedVariables false in
set_option maxHeartbeats 8000000 in
theorem qd5 (t u : Tm) (T U : Option Addr) (ct cu : Nat) (w : World) (ht : t.size ≤ 1000000) (hu : u.size ≤ 1000000) (hrt : RepT w w.heap.size t T ct) (hru : RepT w w.heap.size u U cu) :
  Calls Tryz.prog 31 #[t.val T ct, u.val U cu] w fun e w' => e = .returned (.bool (vrtE t u)) ∧ Below w.heap.size w w' := by
 have hmm := @run_makeMap Tryz.prog;have HF := Lib.hid (show qab w [] w from Below.refl _ _);obtain ⟨V, hV⟩ : ∃ V, V = (w.alloc (qbc t T ct)).alloc (qbc u U cu) := ⟨_, rfl⟩;have hA := HF.out.boxes2 hrt hru;rw [← hV] at hA;obtain ⟨b0, hb0⟩ : ∃ b, b = w.heap.size := ⟨_, rfl⟩;simp only [qbc] at hV;have HV := Lib.hid hV;rw [← hb0] at hA;have HA := Lib.hid hA;have VV := qeg t u T U ct cu V ht hu HA.out.2.1.2 HA.out.1.2;obtain ⟨v2, hv2⟩ : ∃ v, v = qbg t u := ⟨_, rfl⟩;obtain ⟨q, hq⟩ : ∃ q, q = vrtE t u := ⟨_, rfl⟩;rw [← hq];unfold vrtE at hq;rw [← hv2] at VV hq;have HQ := Lib.hid hq;have HV2 := Lib.hid hv2;obtain ⟨a0, a1, a2, a3, -⟩ := BoxT.cells HA.out.2.1;obtain ⟨c0, c1, c2, c3, -⟩ := BoxT.cells HA.out.1;clear hV hA HF hq hv2 hrt hru;simp only [Tm.val] at VV ⊢;have VV := Lib.hid VV;have hbw : w.heap.size ≤ b0 := by omega
 go_enter Tryz.func31, Tryz.ntmps31
 go_wp2_with fail
 rw [← HV.out, ← hb0];clear HV hb0
 try go_wp2_with fail
 refine VV.out.mono ?_; clear VV a0 a1 a2 a3 c0 c1 c2 c3;rintro e w1 ⟨rfl, hl1⟩;have HB := Lib.hid (qab.below hl1.below HA.out); clear HA hl1;rcases eq_facts v2 0 with ⟨e0, e1, n1⟩ | ⟨e0, e1, n1⟩
 rotate_left
 ·have hq := HQ.out.trans (if_neg e0);subst hq;clear HQ;go_wp2_with fail
  go_ret
  exact ⟨rfl, qab.bel HB.out⟩
 have HQ2 := Lib.hid (HQ.out.trans (if_pos e0)); clear HQ;have hvt := qdo (HV2.out.symm.trans e0);clear e0;obtain ⟨Z, hZ⟩ : ∃ Z, Z = (w1.alloc (.map #[] 0)).alloc (.map #[] 0) := ⟨_, rfl⟩;have hb1 : Below w1.heap.size w1 (w1.alloc (.map #[] 0)) := qaf (Nat.le_refl _) _;have hbZ : Below w1.heap.size w1 Z := by rw [hZ]; exact hb1.alloc hb1.size _
 have hs1 : (w1.alloc (.map #[] 0)).heap.size = w1.heap.size + 1 := by simp
 have hm1 : MapI Z w1.heap.size 0 [] := (MapI.made w1).keep (by rw [hZ]; exact (qaf (Nat.le_refl _) (.map #[] 0)).block _ (by rw [hs1]; omega));have hm2 : MapI Z (w1.heap.size + 1) 0 [] := by
  have := MapI.made (w1.alloc (.map #[] 0));rw [hs1] at this;rw [hZ]; exact this
 have RV := qi1 w1.heap.size (w1.heap.size + 1) w1.heap.size ⟨Nat.le_refl _, by omega⟩ (by omega) t u T U ct cu Z hvt.1 hvt.2 ht hm1 hm2 (RepP.mono (fun _ h => h) (fun p hp => hbZ.cell hp) _ _ _ HB.out.2.1.2) (RepP.mono (fun _ h => h) (fun p hp => hbZ.cell hp) _ _ _ HB.out.1.2);rw [← HQ2.out] at RV;simp only [Tm.val] at RV;have RV := Lib.hid RV;have HZ := Lib.hid hZ;have HBZ := Lib.hid hbZ;obtain ⟨a0, a1, a2, a3, -⟩ := BoxT.cells HB.out.2.1;obtain ⟨c0, c1, c2, c3, -⟩ := BoxT.cells HB.out.1;clear hZ hbZ hb1 hs1 hm1 hm2 hvt;go_wp2_with fail
 rw [← HZ.out];refine RV.out.mono ?_; clear RV a0 a1 a2 a3 c0 c1 c2 c3;rintro e w9 ⟨rfl, hb9⟩;have HD := Lib.hid ((qab.bel HB.out).trans ((HBZ.out.trans hb9).mono (qab.bel HB.out).size));clear HB HBZ HZ HQ2 HV2;go_wp2_with fail
 go_ret
 exact ⟨rfl, HD.out⟩
end Go.Proofs.YtpjmdilpldaapaaGreatDoor
namespace Go.Proofs.YtpjmdilpldaapaaGreatDoor
mutual
def Tm.ren (f : ByteArray → Int → ByteArray) : Tm → Tm
 | .mk k n s l => .mk k (if k = 1 then f n s else n) s (Tm.rens f l)
def Tm.rens (f : ByteArray → Int → ByteArray) : List Tm → List Tm
 | [] => []
 | t :: r => Tm.ren f t :: Tm.rens f r
end
theorem rens_eq (f : ByteArray → Int → ByteArray) : ∀ l, Tm.rens f l = l.map (Tm.ren f)
 | [] => rfl
 | t :: r => by rw [Tm.rens, rens_eq f r, List.map_cons]
theorem qex (f : ByteArray → Int → ByteArray) (l : List Tm) : (Tm.rens f l).length = l.length := by rw [rens_eq, List.length_map]
theorem qb3 (f : ByteArray → Int → ByteArray) (t : Tm) : (t.ren f).kind = t.kind := by cases t; rw [Tm.ren]; rfl
theorem qej (f : ByteArray → Int → ByteArray) (t : Tm) : (t.ren f).sort = t.sort := by cases t; rw [Tm.ren]; rfl
theorem ql7 (f : ByteArray → Int → ByteArray) (t : Tm) : (t.ren f).kids = Tm.rens f t.kids := by cases t; rw [Tm.ren]; rfl
theorem ql6 (f : ByteArray → Int → ByteArray) (t : Tm) : (t.ren f).name = if t.kind = 1 then f t.name t.sort else t.name := by cases t; rw [Tm.ren]; rfl
mutual
theorem qlx (f : ByteArray → Int → ByteArray) : ∀ t : Tm, (t.ren f).size = t.size
 | .mk k n s l => by rw [Tm.ren, Tm.size, Tm.size, qju f l]
theorem qju (f : ByteArray → Int → ByteArray) : ∀ l : List Tm, Tm.sizes (Tm.rens f l) = Tm.sizes l
 | [] => rfl
 | t :: r => by rw [Tm.rens, Tm.sizes, Tm.sizes, qlx f t, qju f r]
end
mutual
theorem qkn (f : ByteArray → Int → ByteArray) : ∀ t : Tm, (t.ren f).depth = t.depth
 | .mk k n s l => by rw [Tm.ren, Tm.depth, Tm.depth, qin f l]
theorem qin (f : ByteArray → Int → ByteArray) : ∀ l : List Tm, Tm.depths (Tm.rens f l) = Tm.depths l
 | [] => rfl
 | t :: r => by rw [Tm.rens, Tm.depths, Tm.depths, qkn f t, qin f r]
end
mutual
theorem all_ren (f : ByteArray → Int → ByteArray) : ∀ t : Tm, (t.ren f).all = t.all.map (Tm.ren f)
 | .mk k n s l => by
  have h := qmo f l;have e : Tm.ren f (.mk k n s l) = .mk k (if k = 1 then f n s else n) s (Tm.rens f l) := by rw [Tm.ren]
  rw [Tm.all, List.map_cons, e, Tm.all, h]
theorem qmo (f : ByteArray → Int → ByteArray) : ∀ l : List Tm, Tm.alls (Tm.rens f l) = (Tm.alls l).map (Tm.ren f)
 | [] => rfl
 | t :: r => by rw [Tm.rens, Tm.alls, Tm.alls, List.map_append, all_ren f t, qmo f r]
end
def InV (V : Tm → Prop) (t : Tm) : Prop := ∀ y ∈ t.all, y.kind = 1 → V y
theorem InV.kid {V : Tm → Prop} {t k : Tm} (h : InV V t) (hk : k ∈ t.kids) : InV V k := fun y hy hk1 => h y (qdj hk hy) hk1
structure RenV (f : ByteArray → Int → ByteArray) (V : Tm → Prop) : Prop where
 var : ∀ y, V y → y.kind = 1 ∧ y.kids = []
 inj : ∀ y z, V y → V z → y.ren f = z.ren f → y = z
 nm : ∀ y, V y → qcw (f y.name y.sort).data.toList = true
section
variable {f : ByteArray → Int → ByteArray} {V : Tm → Prop}
mutual
theorem qkq (hv : RenV f V) : ∀ t : Tm, t.check = 0 → InV V t → (t.ren f).check = 0
 | .mk k n s l, h, hV => by
  rw [Tm.ren];by_cases hk : k = 1
  ·subst hk;have hn := hv.nm _ (hV _ (mem_self _) rfl);have hn1 : qcw (f n s).data.toList = true := hn;clear hn;rcases qc9 h with ⟨-, rfl⟩ | ⟨h3, -, -⟩
   ·rw [Tm.check, if_pos (.inl rfl)] at h ⊢;rw [if_pos rfl]
    split at h
    ·omega
    ·rename_i g
     rw [if_neg (by simpa [Tm.rens] using g), if_neg (by rw [hn1]; simp)]
   ·omega
  ·rw [if_neg hk];rcases qc9 h with ⟨-, rfl⟩ | ⟨h3, h4, h5⟩
   ·exact h
   ·subst h3;have h6 := qiq hv l h5 fun k hk y hy hk1 => hV y (by rw [Tm.all]; exact List.mem_cons_of_mem _ (qcx.2 ⟨k, hk, hy⟩)) hk1;rw [Tm.check] at h ⊢;rw [qex];rw [if_neg (by omega), if_pos rfl] at h ⊢
    split at h
    ·omega
    ·split at h
     ·omega
     ·split at h
      ·omega
      ·rename_i g1 g2 g3
       rw [if_neg g1, if_neg g2, if_neg g3]; exact h6
theorem qiq (hv : RenV f V) : ∀ l : List Tm, Tm.checks l = 0 → (∀ k ∈ l, InV V k) → Tm.checks (Tm.rens f l) = 0
 | [], _, _ => rfl
 | t :: r, h, hV => by
  obtain ⟨h1, h2⟩ := qdf h;rw [Tm.rens, Tm.checks, if_neg (by simpa using qkq hv t h1 (hV t (List.mem_cons_self ..)))];exact qiq hv r h2 fun k hk => hV k (List.mem_cons_of_mem _ hk)
end
theorem qe3 (hv : RenV f V) {t : Tm} (h : t.check = 0) (hV : InV V t) : (t.ren f).valid = 0 ↔ t.valid = 0 := by
 rw [qa6, qa6, qlx, qkn];exact ⟨fun g => ⟨h, g.2⟩, fun g => ⟨qkq hv t h hV, g.2⟩⟩
mutual
theorem ren_inj (hv : RenV f V) : ∀ t u : Tm, InV V t → InV V u → t.ren f = u.ren f → t = u
 | .mk k n s l, .mk k' n' s' l', hV, hV', e => by
  have hkk : k = k' := by have := congrArg Tm.kind e; rw [qb3, qb3] at this; exact this
  by_cases hk : k = 1
  ·exact hv.inj _ _ (hV _ (mem_self _) hk) (hV' _ (mem_self _) (by show k' = 1; omega)) e
  ·rw [Tm.ren, Tm.ren, if_neg hk, if_neg (by omega)] at e;injection e with e1 e2 e3 e4;have h := ql5 hv l l' (fun k hk => hV.kid hk) (fun k hk => hV'.kid hk) e4;rw [e1, e2, e3, h]
theorem ql5 (hv : RenV f V) : ∀ l m : List Tm, (∀ k ∈ l, InV V k) → (∀ k ∈ m, InV V k) → Tm.rens f l = Tm.rens f m → l = m
 | [], [], _, _, _ => rfl
 | [], _ :: _, _, _, e => by rw [Tm.rens, Tm.rens] at e; cases e
 | _ :: _, [], _, _, e => by rw [Tm.rens, Tm.rens] at e; cases e
 | t :: l, u :: m, h1, h2, e => by
  rw [Tm.rens, Tm.rens] at e;injection e with e1 e2;rw [ren_inj hv t u (h1 t (List.mem_cons_self ..)) (h2 u (List.mem_cons_self ..)) e1, ql5 hv l m (fun k hk => h1 k (List.mem_cons_of_mem _ hk)) (fun k hk => h2 k (List.mem_cons_of_mem _ hk)) e2]
end
mutual
theorem qk9 (g : ByteArray → Int → ByteArray) {x t x' t' : Tm} (H : ∀ y, V y → (if x = y then t else y).ren g = if x' = y.ren f then t' else y.ren f) :
  ∀ p : Tm, InV V p → (p.put [(x, t)]).ren g = (p.ren f).put [(x', t')]
 | .mk k n s l, hV => by
  by_cases hk : k = 1
  ·rw [put_var (x := .mk k n s l) hk, put_var (x := (Tm.mk k n s l).ren f) (by rw [qb3]; exact hk)];simp only [getS];exact H _ (hV _ (mem_self _) hk)
  ·rw [qi5, if_neg hk, Tm.ren, Tm.ren, if_neg hk, if_neg hk, qi5, if_neg hk, ql8 g H l fun k hk => hV.kid hk]
theorem ql8 (g : ByteArray → Int → ByteArray) {x t x' t' : Tm} (H : ∀ y, V y → (if x = y then t else y).ren g = if x' = y.ren f then t' else y.ren f) :
  ∀ l : List Tm, (∀ k ∈ l, InV V k) → Tm.rens g (Tm.puts [(x, t)] l) = Tm.puts [(x', t')] (Tm.rens f l)
 | [], _ => rfl
 | p :: r, h => by rw [Tm.puts, Tm.rens, Tm.rens, Tm.puts, qk9 g H p (h p (List.mem_cons_self ..)), ql8 g H r fun k hk => h k (List.mem_cons_of_mem _ hk)]
end
theorem occT_ren (hv : RenV f V) {x t : Tm} (hx : V x) (hV : InV V t) : occT (x.ren f) (t.ren f) = occT x t := by
 unfold occT;rw [Bool.eq_iff_iff, decide_eq_true_iff, decide_eq_true_iff, all_ren, List.mem_map];constructor
 ·rintro ⟨y, hy, e⟩;have hk := congrArg Tm.kind e;rw [qb3, qb3, (hv.var x hx).1] at hk;rw [← hv.inj y x (hV y hy hk) hx e]; exact hy
 ·exact fun h => ⟨x, h, rfl⟩
theorem qgs (x t : Tm) : (oneU x t).1 = x ∧ (oneU x t).2.1 = t := by
 unfold oneU; split
 ·exact ⟨rfl, rfl⟩
 ·split <;> exact ⟨rfl, rfl⟩
theorem oneU_ren (hv : RenV f V) {x t : Tm} (hx : x.valid = 0) (ht : t.valid = 0) (hk : x.kind = 1) (hVx : InV V x) (hVt : InV V t) : (oneU (x.ren f) (t.ren f)).2.2 = (oneU x t).2.2 := by
 have h1 : fits (x.ren f) (t.ren f) = fits x t := by
  unfold fits;rw [(qe3 hv (check_valid hx) hVx).2 hx, (qe3 hv (check_valid ht) hVt).2 ht, hx, ht, qb3, qb3, qej, qej]
 unfold oneU;rw [h1, occT_ren hv (hVx _ (mem_self _) hk) hVt]
 split
 ·rfl
 ·split <;> rfl
theorem alike_ren (f : ByteArray → Int → ByteArray) (a b : Tm) : qbd (a.ren f) (b.ren f) = qbd a b := by
 rw [Bool.eq_iff_iff, qbh, qbh, qb3, qb3, ql6, ql6, ql7, ql7, qex, qex];constructor
 ·rintro ⟨h1, h2, h3, h4⟩;rw [if_neg (by omega), if_neg (by omega)] at h3;exact ⟨h1, h2, h3, h4⟩
 ·rintro ⟨h1, h2, h3, h4⟩;refine ⟨h1, h2, ?_, h4⟩;rw [if_neg (by omega), if_neg (by omega)]; exact h3
theorem alike_symm (a b : Tm) : qbd a b = qbd b a := by
 rw [Bool.eq_iff_iff, qbh, qbh];exact ⟨fun ⟨a, b, c, d⟩ => ⟨b, a, c.symm, d.symm⟩, fun ⟨a, b, c, d⟩ => ⟨b, a, c.symm, d.symm⟩⟩
def swP (sw : Bool) (p : Bd) : Bd := if sw = true then (p.2, p.1) else p
def renP (f : ByteArray → Int → ByteArray) (p : Bd) : Bd := (p.1.ren f, p.2.ren f)
def ChoR (f : ByteArray → Int → ByteArray) (c c' : Tm × Tm × Int) : Prop :=
 c'.2.2 = c.2.2 ∧ (c.2.2 = 0 → (c'.1 = c.1.ren f ∧ c'.2.1 = c.2.1.ren f) ∨ (c'.1 = c.2.1.ren f ∧ c'.2.1 = c.1.ren f ∧ c.1.kind = 1 ∧ c.2.1.kind = 1 ∧ c.1.sort = c.2.1.sort))
theorem choose_ren (hv : RenV f V) {a b : Tm} (ha : a.valid = 0) (hb : b.valid = 0) (hA : InV V a) (hB : InV V b) (sw : Bool) :
  ChoR f (qax a b) (qax (swP sw (renP f (a, b))).1 (swP sw (renP f (a, b))).2) := by
 have one : ∀ x t : Tm, x.valid = 0 → t.valid = 0 → x.kind = 1 → InV V x → InV V t → ChoR f (oneU x t) (oneU (x.ren f) (t.ren f)) := fun x t h1 h2 h3 h4 h5 =>
  ⟨oneU_ren hv h1 h2 h3 h4 h5, fun _ => .inl ⟨by rw [(qgs _ _).1, (qgs _ _).1], by rw [(qgs _ _).2, (qgs _ _).2]⟩⟩
 cases sw with
 | false =>
  show ChoR f (qax a b) (qax (a.ren f) (b.ren f));unfold qax;rw [qb3, qb3, qej, qej];by_cases ka : a.kind = 1
  ·by_cases kb : b.kind = 1
   ·rw [if_pos ka, if_pos kb, if_pos ka, if_pos kb];by_cases hs : a.sort = b.sort
    ·rw [if_pos hs, if_pos hs]
     split <;> split
     ·exact ⟨rfl, fun _ => .inl ⟨rfl, rfl⟩⟩
     ·exact ⟨rfl, fun _ => .inr ⟨rfl, rfl, kb, ka, hs.symm⟩⟩
     ·exact ⟨rfl, fun _ => .inr ⟨rfl, rfl, ka, kb, hs⟩⟩
     ·exact ⟨rfl, fun _ => .inl ⟨rfl, rfl⟩⟩
    ·rw [if_neg hs, if_neg hs];by_cases h0 : b.sort = 0
     ·rw [if_pos h0, if_pos h0]; exact ⟨rfl, fun _ => .inl ⟨rfl, rfl⟩⟩
     ·rw [if_neg h0, if_neg h0];by_cases h1 : a.sort = 0
      ·rw [if_pos h1, if_pos h1]; exact ⟨rfl, fun _ => .inl ⟨rfl, rfl⟩⟩
      ·rw [if_neg h1, if_neg h1]; exact ⟨rfl, fun h => absurd (show (11 : Int) = 0 from h) (by decide)⟩
   ·rw [if_pos ka, if_neg kb, if_pos ka, if_neg kb]; exact one a b ha hb ka hA hB
  ·rw [if_neg ka, if_neg ka];by_cases kb : b.kind = 1
   ·rw [if_pos kb, if_pos kb]; exact one b a hb ha kb hB hA
   ·rw [if_neg kb, if_neg kb]; exact ⟨rfl, fun h => absurd (show (11 : Int) = 0 from h) (by decide)⟩
 | true =>
  show ChoR f (qax a b) (qax (b.ren f) (a.ren f));unfold qax;rw [qb3, qb3, qej, qej];by_cases ka : a.kind = 1
  ·by_cases kb : b.kind = 1
   ·rw [if_pos ka, if_pos kb, if_pos ka, if_pos kb];by_cases hs : a.sort = b.sort
    ·rw [if_pos hs, if_pos hs.symm]
     split <;> split
     ·exact ⟨rfl, fun _ => .inr ⟨rfl, rfl, kb, ka, hs.symm⟩⟩
     ·exact ⟨rfl, fun _ => .inl ⟨rfl, rfl⟩⟩
     ·exact ⟨rfl, fun _ => .inl ⟨rfl, rfl⟩⟩
     ·exact ⟨rfl, fun _ => .inr ⟨rfl, rfl, ka, kb, hs⟩⟩
    ·have hs' : ¬ b.sort = a.sort := fun e => hs e.symm;rw [if_neg hs, if_neg hs'];by_cases h0 : b.sort = 0
     ·have h1 : a.sort ≠ 0 := by omega
      rw [if_pos h0, if_neg h1, if_pos h0]; exact ⟨rfl, fun _ => .inl ⟨rfl, rfl⟩⟩
     ·rw [if_neg h0];by_cases h1 : a.sort = 0
      ·rw [if_pos h1, if_pos h1]; exact ⟨rfl, fun _ => .inl ⟨rfl, rfl⟩⟩
      ·rw [if_neg h1, if_neg h1, if_neg h0]; exact ⟨rfl, fun h => absurd (show (11 : Int) = 0 from h) (by decide)⟩
   ·rw [if_pos ka, if_neg kb, if_neg kb, if_pos ka]; exact one a b ha hb ka hA hB
  ·rw [if_neg ka];by_cases kb : b.kind = 1
   ·rw [if_pos kb, if_pos kb, if_neg ka]; exact one b a hb ha kb hB hA
   ·rw [if_neg kb, if_neg kb, if_neg ka]; exact ⟨rfl, fun h => absurd (show (11 : Int) = 0 from h) (by decide)⟩
theorem var_ext {y z : Tm} (hy : y.kind = 1 ∧ y.kids = []) (hz : z.kind = 1 ∧ z.kids = []) (hn : y.name = z.name) (hs : y.sort = z.sort) : y = z := by
 obtain ⟨y1, y2, y3, y4⟩ := y;obtain ⟨z1, z2, z3, z4⟩ := z;simp only [Tm.kind, Tm.kids, Tm.name, Tm.sort] at *;rw [hy.1, hy.2, hz.1, hz.2, hn, hs]
theorem bind_ren (hv : RenV f V) {x t x' t' : Tm} (hx : V x) (ht : InV V t) (hxt : x ∉ t.all)
  (h : (x' = x.ren f ∧ t' = t.ren f) ∨ (x' = t.ren f ∧ t' = x.ren f ∧ x.kind = 1 ∧ t.kind = 1 ∧ x.sort = t.sort)) :
  ∃ g, RenV g (fun y => V y ∧ y ≠ x) ∧ t' = t.ren g ∧ ∀ p, InV V p → (p.put [(x, t)]).ren g = (p.ren f).put [(x', t')] := by
 rcases h with ⟨rfl, rfl⟩ | ⟨rfl, rfl, hk, htk, hso⟩
 ·refine ⟨f, ⟨fun y h => hv.var y h.1, fun y z h h' => hv.inj y z h.1 h'.1, fun y h => hv.nm y h.1⟩, rfl, fun p hp => qk9 f (fun y hy => ?_) p hp⟩;by_cases e : x = y
  ·rw [if_pos e, if_pos (by rw [e])]
  ·rw [if_neg e, if_neg (fun e' => e (hv.inj x y hx hy e'))]
 ·have hVt : V t := ht t (mem_self _) htk;have hne : x ≠ t := fun e => hxt (e ▸ mem_self _);obtain ⟨g, hg⟩ : ∃ g : ByteArray → Int → ByteArray, g = fun n s => if n = t.name ∧ s = t.sort then f x.name x.sort else f n s := ⟨_, rfl⟩
  have hy : ∀ y, V y → y.ren g = if y = t then x.ren f else y.ren f := fun y hy => by
   have gk := hv.var y hy;have e1 : ∀ (F : ByteArray → Int → ByteArray) (z : Tm), V z → z.ren F = .mk 1 (F z.name z.sort) z.sort [] := fun F z hz => by
    obtain ⟨z1, z2, z3, z4⟩ := z;have := hv.var _ hz;simp only [Tm.kind, Tm.kids] at this;rw [this.1, this.2, Tm.ren, if_pos rfl]; rfl
   rw [e1 _ y hy, e1 _ x hx, hg];by_cases e : y = t
   ·rw [if_pos e, e]; simp only [and_self, if_true]; rw [hso]
   ·rw [if_neg e, e1 _ y hy];dsimp only;rw [if_neg (fun h => e (var_ext gk (hv.var t hVt) h.1 h.2))]
  refine ⟨g, ⟨fun y h => hv.var y h.1, fun y z h h' e => ?_, fun y h => ?_⟩, by rw [hy t hVt, if_pos rfl], fun p hp => qk9 g (fun y hVy => ?_) p hp⟩
  ·rw [hy y h.1, hy z h'.1] at e;by_cases h1 : y = t
   ·by_cases h2 : z = t
    ·rw [h1, h2]
    ·rw [if_pos h1, if_neg h2] at e;exact absurd (hv.inj x z hx h'.1 e).symm h'.2
   ·by_cases h2 : z = t
    ·rw [if_neg h1, if_pos h2] at e;exact absurd (hv.inj y x h.1 hx e) h.2
    ·rw [if_neg h1, if_neg h2] at e;exact hv.inj y z h.1 h'.1 e
  ·rw [hg]; dsimp only
   split
   ·exact hv.nm x hx
   ·exact hv.nm y h.1
  ·by_cases e : x = y
   ·subst e;rw [if_pos rfl, if_neg (fun e' => hne (hv.inj t x hVt hx e').symm), hy t hVt, if_pos rfl]
   ·rw [if_neg e, hy y hVy];by_cases e2 : y = t
    ·rw [if_pos e2, if_pos (by rw [e2])]
    ·rw [if_neg e2, if_neg (fun e' => e2 (hv.inj t y hVt hVy e').symm)]
theorem inV_put {x t : Tm} (_hx : x.kind = 1) (hxt : x ∉ t.all) (ht : InV V t) {p : Tm} (hc : p.check = 0) (hp : InV V p) : InV (fun y => V y ∧ y ≠ x) (p.put [(x, t)]) := fun y hy hk => by
 rcases qhb hk p hc hy with ⟨h1, h2⟩ | h1
 ·exact ⟨hp y h1 hk, h2⟩
 ·exact ⟨ht y h1 hk, fun e => hxt (e ▸ h1)⟩
end
structure SimU (V : Tm → Prop) (f : ByteArray → Int → ByteArray) (sw : Bool) (ps bs ps' bs' : List Bd) : Prop where
 ren : RenV f V
 pairs : ps' = ps.map (fun p => swP sw (renP f p))
 binds : bs'.map (·.2) = bs.map (fun b => b.2.ren f)
 vp : ∀ p ∈ ps, InV V p.1 ∧ InV V p.2
 vb : ∀ b ∈ bs, InV V b.2
end Go.Proofs.YtpjmdilpldaapaaGreatDoor
namespace Go.Proofs.YtpjmdilpldaapaaGreatDoor
open Go.RowKit Go.Sort
theorem convB (W : World) (b : Nat) (c : Int) (h : W.cell? ⟨b, 0, none⟩ = some (.int .u8 c)) :
  (Go.convert 113 9 (.slice (some ⟨b, 0, none⟩) 1 1)).run Tryz.prog W = .ok (.string (strOfNums [c])) W := by
 have hconv := run_convert_bytes_arg (P := Tryz.prog) W 113 5 Tryz.underlying113 Tryz.underlying5 b 0 1 1 [c] rfl (fun i hi => by
  obtain rfl : i = 0 := by omega
  exact h) 9 Tryz.underlying9
 exact hconv
theorem digS (d : Nat) : strOfNums [48 + (d : Int)] = ⟨#[UInt8.ofNat (48 + d)]⟩ := by
 have h : (48 + (d : Int)).toNat = 48 + d := by omega
 show (⟨#[UInt8.ofNat (48 + (d : Int)).toNat]⟩ : ByteArray) = _;rw [h]
theorem dec_snoc {n : Nat} (h : ¬ n < 10) : (⟨(Lib.decDigits n).toArray⟩ : ByteArray) = (⟨(Lib.decDigits (n / 10)).toArray⟩ : ByteArray) ++ (⟨#[UInt8.ofNat (48 + n % 10)]⟩ : ByteArray) := by
 rw [Lib.decDigits, dif_neg h];apply ByteArray.ext;simp [ByteArray.data_append]
theorem qmj {n : Nat} (h : n < 1000000) : (⟨(Lib.decDigits n).toArray⟩ : ByteArray).size ≤ 6 := by
 show (Lib.decDigits n).toArray.size ≤ 6;have go : ∀ (k m : Nat), m < 10 ^ (k + 1) → (Lib.decDigits m).length ≤ k + 1 := by
  intro k
  induction k with
  | zero => intro m hm; rw [Lib.decDigits, dif_pos (by omega)]; simp
  | succ k ih =>
   intro m hm;rw [Lib.decDigits]
   split
   ·simp
   ·have := ih (m / 10) (by rw [Nat.pow_succ] at hm; omega);simp; omega
 have := go 5 n (by simpa using h);simpa using this
set_option maxHeartbeats 4000000 in
theorem qk6 : ∀ (n : Nat), n < 1000000 → ∀ (w : World),
  Calls Tryz.prog 82 #[.int .i64 n] w fun e w' => e = .returned (.string ⟨(Lib.decDigits n).toArray⟩) ∧ Below w.heap.size w w' := by
 have mixed : Tryz.prog.follows .mixedOrders = true := by kernel_rfl
 intro n
 induction n using Nat.strongRecOn with
 | _ n ih =>
 intro hn w;by_cases h10 : n < 10
 ·have hi : (n : Int) < 10 := by omega
  have hc := convB (w.alloc (.cells #[.int .u8 (48 + (n : Int))] 5)) w.heap.size (48 + (n : Int)) (by
   unfold World.cell?; rw [heap_alloc_new]; rfl)
  rw [digS] at hc;have HD : Hid ((⟨(Lib.decDigits n).toArray⟩ : ByteArray) = ⟨#[UInt8.ofNat (48 + n)]⟩) := by
   show _ = _; rw [Lib.decDigits, dif_pos h10]
  rw [HD.out];clear HD ih;generalize (⟨#[UInt8.ofNat (48 + n)]⟩ : ByteArray) = ch at *;go_enter Tryz.func82, Tryz.ntmps82
  go_wp2_with fail
  go_ret
  exact ⟨rfl, qaf (Nat.le_refl _) _⟩
 ·have hi : ¬ (n : Int) < 10 := by omega
  have IH := ih (n / 10) (by omega) (by omega);obtain ⟨D, hD⟩ : ∃ D : ByteArray, D = ⟨(Lib.decDigits (n / 10)).toArray⟩ := ⟨_, rfl⟩;have hs := qmj (n := n / 10) (by omega);rw [← hD] at IH hs;have HS := Lib.hid (dec_snoc h10);rw [← hD] at HS;rw [HS.out];clear HS hD ih;obtain ⟨d, hd⟩ : ∃ d, d = n % 10 := ⟨_, rfl⟩;obtain ⟨q, hq⟩ : ∃ q, q = n / 10 := ⟨_, rfl⟩;rw [← hd];rw [← hq] at IH;have hdq : (n : Int) % 10 = (d : Int) := by omega
  have hqq : (n : Int) / 10 = (q : Int) := by omega
  have ht1 : (n : Int).tdiv 10 = (q : Int) := by rw [Int.tdiv_eq_ediv_of_nonneg (by omega)]; exact hqq
  have ht2 : (n : Int).tmod 10 = (d : Int) := by rw [Int.tmod_eq_emod_of_nonneg (by omega)]; exact hdq
  have hd9 : (d : Int) < 10 := by omega
  have hz : (⟨#[UInt8.ofNat (48 + d)]⟩ : ByteArray).size = 1 := rfl;have DS := Lib.hid (digS d);generalize (⟨#[UInt8.ofNat (48 + d)]⟩ : ByteArray) = ch at *;have hq0 : (0 : Int) ≤ q := by omega
  have hd0 : (0 : Int) ≤ d := by omega
  have hqn : (q : Int) < 1000000 := by omega
  have hw1 : IntKind.i64.wrap (q : Int) = q := by rw [IntKind.wrap_i64]; omega
  have hw2 : IntKind.i64.wrap (48 + (d : Int)) = 48 + d := by rw [IntKind.wrap_i64]; omega
  have hw3 : IntKind.u8.wrap (48 + (d : Int)) = 48 + d := by rw [IntKind.wrap_u8]; omega
  have hl : ¬ 9223372036854775807 < D.size + 1 := by omega
  have hnn : (n : Int) < 1000000 := by omega
  have IH := Lib.hid IH;clear hd hq hs;go_enter Tryz.func82, Tryz.ntmps82
  go_wp2_with fail
  refine qai (fun _ => True) (fun Y => Below w.drew.heap.size w.drew Y) [] (.held 0 (.held 1 (.held 3 (.held 4 (.held 5 (.held 6 (.two 2 7 (.op 7 (.op 8 (.held 9 (.held 10 .nil)))) (.two 2 8 (.op 8 (.held 9 (.held 10 .nil))) (.op 2 (.held 9 (.held 10 .nil))))))))))) mixed (by kernel_rfl) ?_;have HB0 : Hid (Below w.heap.size w w.drew) := (Below.refl _ _).drew;generalize w.drew = X at *;refine qaa (v := .int .i64 n) rfl rfl rfl (fun _ _ _ h => h) trivial (Below.refl _ _) (fun Y _ _ => by (try simp only [Act.put]); go_simp) ?_;refine qaa (v := .int .i64 q) rfl rfl rfl (fun _ _ _ h => h) trivial (Below.refl _ _) (fun Y _ _ => by (try simp only [Act.put]); go_simp) ?_;refine qaa (v := .int .i64 n) rfl rfl rfl (fun _ _ _ h => h) trivial (Below.refl _ _) (fun Y _ _ => by (try simp only [Act.put]); go_simp) ?_
  refine qaa (v := .int .i64 d) rfl rfl rfl (fun _ _ _ h => h) trivial (Below.refl _ _) (fun Y _ _ => by (try simp only [Act.put]); go_simp) ?_;refine qaa (v := .int .i64 (48 + (d : Int))) rfl rfl rfl (fun _ _ _ h => h) trivial (Below.refl _ _) (fun Y _ _ => by (try simp only [Act.put]); go_simp) ?_;refine qaa (v := .int .u8 (48 + (d : Int))) rfl rfl rfl (fun _ _ _ h => h) trivial (Below.refl _ _) (fun Y _ _ => by (try simp only [Act.put]); go_simp) ?_;refine qa9 ?_ ?_
  ·skip
   refine qac rfl rfl (fun K hK => ?_);go_wp2_with fail
   refine (IH.out X).mono ?_;rintro e W1 ⟨rfl, hb2⟩;have hB3 := Below.trans (Below.refl X.heap.size X) (Below.mono hb2 (Below.size (Below.refl X.heap.size X)));refine hK _ _ ⟨⟨fun _ => trivial, hB3⟩, ?_⟩;clear hK K;refine qac rfl rfl (fun K hK => ?_);go_wp2_with fail
   obtain ⟨W4, hW5⟩ : ∃ V, V = W1.alloc (.cells #[.int .u8 (48 + (d : Int))] 5) := ⟨_, rfl⟩;have hb8 : Below W1.heap.size W1 W4 := by rw [hW5]; exact qaf (Nat.le_refl _) _
   have hc7 : W4.cell? ⟨W1.heap.size, 0, none⟩ = some (.int .u8 (48 + (d : Int))) := by rw [hW5]; unfold World.cell?; rw [heap_alloc_new]; rfl
   have hc7l : W1.heap.size < W4.heap.size := by rw [hW5]; simp
   rw [← hW5];clear hW5;have hB6 := Below.trans hB3 (Below.mono hb8 (Below.size hB3));refine ⟨⟨fun _ => trivial, hB6⟩, ?_⟩;refine qac rfl rfl (fun K hK => ?_);have hcv := convB W4 W1.heap.size (48 + (d : Int)) hc7;rw [DS.out] at hcv;go_wp2_with fail
   refine ⟨⟨fun _ => trivial, hB6⟩, ?_⟩;clear hcv;refine qaa (v := .string (D ++ ch)) rfl rfl rfl (fun _ _ _ h => h) trivial hB6 (fun Y _ _ => by (try simp only [Act.put]); go_simp) ?_;refine qaa (v := .string (D ++ ch)) rfl rfl rfl (fun _ _ _ h => h) trivial hB6 (fun Y _ _ => by (try simp only [Act.put]); go_simp) ?_;refine qaj ?_;go_wp2_with fail
   go_ret
   exact ⟨rfl, Below.trans HB0.out (Below.mono hB6 HB0.out.size)⟩
  ·skip
   refine qac rfl rfl (fun K hK => ?_);go_wp2_with fail
   obtain ⟨W9, hW10⟩ : ∃ V, V = X.alloc (.cells #[.int .u8 (48 + (d : Int))] 5) := ⟨_, rfl⟩;have hb13 : Below X.heap.size X W9 := by rw [hW10]; exact qaf (Nat.le_refl _) _
   have hc12 : W9.cell? ⟨X.heap.size, 0, none⟩ = some (.int .u8 (48 + (d : Int))) := by rw [hW10]; unfold World.cell?; rw [heap_alloc_new]; rfl
   have hc12l : X.heap.size < W9.heap.size := by rw [hW10]; simp
   rw [← hW10];clear hW10;have hB11 := Below.trans (Below.refl X.heap.size X) (Below.mono hb13 (Below.size (Below.refl X.heap.size X)));refine ⟨⟨fun _ => trivial, hB11⟩, ?_⟩;refine qa9 ?_ ?_
   ·skip
    refine qac rfl rfl (fun K hK => ?_);go_wp2_with fail
    refine (IH.out W9).mono ?_;rintro e W14 ⟨rfl, hb15⟩;have hB16 := Below.trans hB11 (Below.mono hb15 (Below.size hB11));refine hK _ _ ⟨⟨fun _ => trivial, hB16⟩, ?_⟩;clear hK K;have hcc := (hb15.cell (p := ⟨X.heap.size, 0, none⟩) hc12l).trans hc12;refine qac rfl rfl (fun K hK => ?_);have hcv := convB W14 X.heap.size (48 + (d : Int)) hcc;rw [DS.out] at hcv;go_wp2_with fail
    refine ⟨⟨fun _ => trivial, hB16⟩, ?_⟩;clear hcv;refine qaa (v := .string (D ++ ch)) rfl rfl rfl (fun _ _ _ h => h) trivial hB16 (fun Y _ _ => by (try simp only [Act.put]); go_simp) ?_;refine qaa (v := .string (D ++ ch)) rfl rfl rfl (fun _ _ _ h => h) trivial hB16 (fun Y _ _ => by (try simp only [Act.put]); go_simp) ?_;refine qaj ?_;go_wp2_with fail
    go_ret
    exact ⟨rfl, Below.trans HB0.out (Below.mono hB16 HB0.out.size)⟩
   ·skip
    refine qac rfl rfl (fun K hK => ?_);have hcv := convB W9 X.heap.size (48 + (d : Int)) hc12;rw [DS.out] at hcv;go_wp2_with fail
    refine ⟨⟨fun _ => trivial, hB11⟩, ?_⟩;clear hcv;refine qac rfl rfl (fun K hK => ?_);go_wp2_with fail
    refine (IH.out W9).mono ?_;rintro e W17 ⟨rfl, hb18⟩;have hB19 := Below.trans hB11 (Below.mono hb18 (Below.size hB11));refine hK _ _ ⟨⟨fun _ => trivial, hB19⟩, ?_⟩;clear hK K;refine qaa (v := .string (D ++ ch)) rfl rfl rfl (fun _ _ _ h => h) trivial hB19 (fun Y _ _ => by (try simp only [Act.put]); go_simp) ?_;refine qaa (v := .string (D ++ ch)) rfl rfl rfl (fun _ _ _ h => h) trivial hB19 (fun Y _ _ => by (try simp only [Act.put]); go_simp) ?_;refine qaj ?_;go_wp2_with fail
    go_ret
    exact ⟨rfl, Below.trans HB0.out (Below.mono hB19 HB0.out.size)⟩
end Go.Proofs.YtpjmdilpldaapaaGreatDoor
namespace Go.Proofs.YtpjmdilpldaapaaGreatDoor
open Go.RowKit Go.Sort Go.Maps
structure ApAt (w : World) (mb nn base lb : Nat) (m : List Bd) (o1 o2 : Obj) (L : List Tm) (AL : Option Addr) (cL : Nat) (itsL : List It) (Z : World) : Prop where
 map : MapT Z mb nn (fun b => b < w.heap.size) m
 b1 : Z.heap[w.heap.size]? = some o1
 b2 : Z.heap[w.heap.size + 1]? = some o2
 row : RowT Z lb (fun _ => False) (.slice AL L.length cL) itsL
 is : itsL.map (·.1) = L
 bel : Below w.heap.size w Z
 own : ∀ k, (Value.slice AL L.length cL).ownBlock = some k → k < base ∧ k ≠ mb
 mlt : mb < base
 mw : w.heap.size + 2 ≤ mb
 bs : base ≤ Z.heap.size
section
variable {w Z Z' : World} {mb nn nn' base lb cL : Nat} {m m' : List Bd} {o1 o2 : Obj} {L : List Tm} {AL : Option Addr} {itsL : List It}
theorem ApAt.go (h : ApAt w mb nn base lb m o1 o2 L AL cL itsL Z) (hb : Below Z.heap.size Z Z') : ApAt w mb nn base lb m o1 o2 L AL cL itsL Z' := by
 have hm := h.map.lt;have h1 := h.mw;have h2 := h.mlt;have h3 := h.bs;have h4 := hb.size;exact ⟨h.map.keep (hb.block _ hm) (fun p (hp : p.block < w.heap.size) => hb.cell (by omega)), (hb.block _ (by omega)).trans h.b1, (hb.block _ (by omega)).trans h.b2, qb8 h.row hb.size (fun k e => hb.block _ (by have := (h.own k e).1; omega)) (fun _ hf => False.elim hf), h.is, h.bel.trans (hb.mono (by omega)), h.own, h.mlt, h.mw, by omega⟩
theorem ApAt.turn (h : ApAt w mb nn base lb m o1 o2 L AL cL itsL Z) (hm : MapT Z' mb nn' (fun b => b < w.heap.size) m') (ht : Z.mapTurned Z' mb) : ApAt w mb nn' base lb m' o1 o2 L AL cL itsL Z' := by
 have hk : ∀ j, j < Z.heap.size → j ≠ mb → Z'.heap[j]? = Z.heap[j]? := fun j hj hne => ht.grown.block j hj (fun e => by injection e with e; exact hne e);have h1 := h.mw;have h2 := h.mlt;have h3 := h.bs;have h4 := ht.grown.size;exact ⟨hm, (hk _ (by omega) (by omega)).trans h.b1, (hk _ (by omega) (by omega)).trans h.b2, qb8 h.row h4 (fun k e => hk k (by have := (h.own k e).1; omega) (h.own k e).2) (fun _ hf => False.elim hf), h.is, h.bel.grown ht.grown (by omega) (fun j e => by injection e with e; omega), h.own, h.mlt, h.mw, by omega⟩
end
attribute [local irreducible] qaz
end Go.Proofs.YtpjmdilpldaapaaGreatDoor
namespace Go.Proofs.YtpjmdilpldaapaaGreatDoor
open Go.RowKit Go.Sort
theorem qnf {L : List Tm} {g : ByteArray} {k : Nat} (h : k < L.length) : decide (g ∈ (L.take (k + 1)).map Tm.name) = (decide (g ∈ (L.take k).map Tm.name) || decide (L[k].name = g)) := by
 rw [List.take_succ_eq_append_getElem h, List.map_append, Bool.eq_iff_iff];simp only [List.mem_append, List.map_cons, List.map_nil, List.mem_singleton, Bool.or_eq_true, decide_eq_true_eq];constructor
 ·rintro (h | h)
  ·exact .inl h
  ·exact .inr h.symm
 ·rintro (h | h)
  ·exact .inl h
  ·exact .inr h.symm
theorem name_dec (a b : ByteArray) : decide (a = b) = (a.toList == b.toList) := by
 rw [Bool.eq_iff_iff, decide_eq_true_iff, beq_iff_eq];exact ⟨fun h => by rw [h], fun h => by rw [ByteArray.toList_eq, ByteArray.toList_eq] at h; exact ByteArray.ext (Array.toList_inj.1 h)⟩
set_option maxHeartbeats 4000000 in
theorem qm3 (L : List Tm) (A : Option Addr) (c n : Nat) (w : World) (hn : n + L.length < 999999) (hrep : RepS w (fun b => b < w.heap.size) L A c) :
  Calls Tryz.prog 58 #[.slice A L.length c, .int .i64 n] w fun e w' => e = .returned (.tuple #[.string (qa1 (qa4 (L.map Tm.name) n)), .int .i64 ((qa4 (L.map Tm.name) n : Nat) + 1)]) ∧ Below w.heap.size w w' := by
 obtain ⟨hr1, hr2, hr3⟩ := hrep;obtain ⟨F, hF⟩ : ∃ F, F = qa4 (L.map Tm.name) n := ⟨_, rfl⟩;rw [← hF];obtain ⟨hf1, hf2, hf3, hf4⟩ := qbn (L.map Tm.name) n;rw [← hF] at hf1 hf2 hf3 hf4;rw [List.length_map] at hf2;have HF1 : Hid (qa1 F ∉ L.map Tm.name ∧ ∀ i, n ≤ i → i < F → qa1 i ∈ L.map Tm.name) := ⟨hf3, hf4⟩;clear hf3 hf4 hF;go_enter Tryz.func58, Tryz.ntmps58
 go_wp2_with fail
 go_loopw [1] (fun iv wr => ∃ m : Nat, iv = .int .i64 m ∧ n ≤ m ∧ m ≤ F ∧ Hid (Below w.heap.size w wr)) (fun iv _ => F + 1 - (intOf iv).toNat)
 case atStart => exact ⟨n, rfl, Nat.le_refl _, hf1, Below.refl _ _⟩
 case round =>
  obtain ⟨m, rfl, hn1, hn2, HB⟩ := hrel;have DG := qk6 m (by omega) wr;obtain ⟨nm, hnm⟩ : ∃ nm : ByteArray, nm = ⟨(Lib.decDigits m).toArray⟩ := ⟨_, rfl⟩;have hgm : qa1 m = (⟨#[103]⟩ : ByteArray) ++ nm := by rw [hnm]; rfl
  have hsz : nm.size ≤ 6 := by rw [hnm]; exact qmj (by omega)
  rw [← hnm] at DG;obtain ⟨g, hg⟩ : ∃ g, g = qa1 m := ⟨_, rfl⟩;rw [← hg] at hgm;have HG := Lib.hid hg;have HGM := Lib.hid hgm;have DG := Lib.hid DG;have m0 : (0 : Int) ≤ (m : Int) := by omega
  have mx : (m : Int) < 1000000 := by omega
  clear hnm hg hgm;go_wp2_with fail
  refine DG.out.mono ?_; clear DG;rintro e w2 ⟨rfl, hl2⟩;have HB2 := Lib.hid (qad HB.out hl2 HB.out.size);clear HB hl2;go_wp2_with fail
  rw [← HGM.out];clear HGM hsz;generalize wr = wo at *;go_loopw [7, 8] (fun uv kv wr => ∃ (k : Nat) (q : Bool), k ≤ L.length ∧ kv = .int .i64 k ∧ uv = .bool q ∧ Hid (q = decide (g ∈ (L.take k).map Tm.name)) ∧ Hid (Below w.heap.size w wr)) (fun _ kv _ => L.length - (intOf kv).toNat)
  case atStart => exact ⟨0, false, Nat.zero_le _, rfl, rfl, (by show _ = _; simp), HB2.out⟩
  case round =>
   clear HB2;obtain ⟨k, q, hk, rfl, rfl, HQ, HB3⟩ := hrel;have k0 : (0 : Int) ≤ (k : Int) := by omega
   by_cases hlt : k < L.length
   ·have k1 : (k : Int) < (L.length : Int) := by omega
    rcases hr3 with h | ⟨b, off, hA, hbB, hl⟩
    ·rw [h] at hlt; simp at hlt
    subst hA;obtain ⟨Ak, ck, h0, h1, h2, h3, -⟩ := qao.get hl k hlt;have h1' := (HB3.out.cell (p := ⟨b, off + k * 4 + 1, none⟩) hbB).trans h1;have hs := qnf (L := L) (g := g) hlt;rw [← HQ.out, name_dec] at hs;generalize L[k].name = nk at *;have HS := Lib.hid hs;clear h0 h1 h2 h3 hs HQ
    cases q with
    | true =>
     have HS2 := Lib.hid (HS.out.trans (Bool.true_or _));clear HS;go_wp2_with fail
     go_roundw
     case rel => exact ⟨k + 1, true, by omega, by go_num, rfl, HS2.out.symm, HB3.out⟩
     case measure => simp [intOf]; omega
    | false =>
     have HS2 := Lib.hid (HS.out.trans (Bool.false_or _));clear HS;go_wp2_with fail
     go_roundw
     case rel => exact ⟨k + 1, _, by omega, by go_num, rfl, HS2.out.symm, HB3.out⟩
     case measure => simp [intOf]; omega
   ·obtain rfl : k = L.length := by omega
    have hq := HQ.out;rw [List.take_length] at hq
    cases q with
    | true =>
     have hin : qa1 m ∈ L.map Tm.name := by rw [← HG.out]; exact of_decide_eq_true hq.symm
     have hlt3 : m < F := by
      rcases Nat.lt_or_eq_of_le hn2 with h | h
      ·exact h
      ·rw [h] at hin; exact absurd hin HF1.out.1
     clear hq hin HQ;go_wp2_with fail
     go_roundw
     case rel => exact ⟨m + 1, by go_num, by omega, by omega, HB3.out⟩
     case measure => simp [intOf]; omega
    | false =>
     have hnot : qa1 m ∉ L.map Tm.name := by rw [← HG.out]; exact of_decide_eq_false hq.symm
     obtain rfl : m = F := by
      rcases Nat.lt_or_eq_of_le hn2 with h | h
      ·exact absurd (HF1.out.2 m hn1 h) hnot
      ·exact h
     clear hq hnot HQ;go_wp2_with fail
     go_ret2
     exact ⟨by rw [HG.out]; rfl, HB3.out⟩
theorem qm0 {w : World} {base base2 B : Nat} {v : Value} {its its2 : List It} (hrow : RowT w base (fun b => b < B) v its) (hB : B ≤ base) (hbase : base ≤ w.heap.size) {A : Option Addr} {c m : Nat} (hrow2 : RowT w base2 (fun b => b < B) (.slice A m c) its2) (hlen : its.length + m ≤ 100000000) :
  ∃ A' c' w', (∀ ty, (Builtin.append_ #[22, 22] ty #[v, .slice A m c]).run Tryz.prog w = .ok (.slice A' (its.length + m) c') w') ∧
   RowT w' base (fun b => b < B) (.slice A' (its.length + m) c') (its ++ its2) ∧ (∀ W0 B0, Below B0 W0 w → B0 ≤ base → Below B0 W0 w') := by
 have grown : ∀ {w1 : World}, w.grownBy w1 v.ownBlock → ∀ W0 B0, Below B0 W0 w → B0 ≤ base → Below B0 W0 w1 := fun hg W0 B0 hb hB0 =>
  qau hb (by omega) hg (fun k hk => by have := (hrow.lt k hk).1; omega)
 have hm := hrow2.len;by_cases h0 : m = 0
 ·subst h0;have : its2 = [] := List.eq_nil_of_length_eq_zero hm.symm;subst this;have hc0 : ∀ ty, (Builtin.append_ #[22, 22] ty #[v, .slice A 0 c]).run Tryz.prog w = .ok v w := fun ty => qed hrow.own A c ty;rcases hrow.own.2 with ⟨hv, h0⟩ | ⟨g, cap, cur, hv, _⟩
  ·refine ⟨none, 0, w, fun ty => ?_, ?_, fun _ _ h _ => h⟩
   ·rw [hv] at hc0; rw [hv, h0]; exact hc0 ty
   ·rw [hv] at hrow; rw [List.append_nil, h0]; exact hrow
  ·refine ⟨some ⟨g, 0, none⟩, cap, w, fun ty => ?_, ?_, fun _ _ h _ => h⟩
   ·have h2 := hc0 ty; rw [hv] at h2; rw [hv]; exact h2
   ·rw [hv] at hrow; rw [List.append_nil]; exact hrow
 ·obtain ⟨g2, rfl⟩ := hrow2.some (by omega);obtain ⟨A', c', w', h1, h2, h3, -⟩ := hrow.more (fun b h => by omega) hbase g2 0 c m its2 hm hrow2.cells (fun x hx => RepP.mono (fun b h => h.1) (fun _ _ => rfl) _ _ _ (hrow2.reps x hx)) hlen;exact ⟨A', c', w', h1, h2, grown h3⟩
def varsL (l : List Tm) : List Tm := l.flatMap varsOf
theorem qmt (l : List Tm) (k : Nat) (h : k < l.length) : varsL (l.take (k + 1)) = varsL (l.take k) ++ varsOf l[k] := by
 unfold varsL;rw [List.take_succ_eq_append_getElem h, List.flatMap_append];simp
theorem qe2 : ∀ l : List Tm, (varsL l).length ≤ Tm.sizes l
 | [] => by simp [varsL]
 | t :: r => by
  have h1 := qcp t;have h2 := qe2 r;have e : varsL (t :: r) = varsOf t ++ varsL r := rfl;rw [e, List.length_append, Tm.sizes];omega
theorem varsL_mem {l : List Tm} {x : Tm} (h : x ∈ varsL l) : ∃ t ∈ l, x ∈ varsOf t := by
 unfold varsL at h;obtain ⟨t, h1, h2⟩ := List.mem_flatMap.1 h;exact ⟨t, h1, h2⟩
theorem qky {t x : Tm} (h : x ∈ varsOf t) : x.size ≤ t.size := by
 unfold varsOf at h;rw [Tm.mem_set, List.mem_filter] at h;exact Tm.mem_all_size t x h.1
theorem qjv : ∀ {l : List Tm} {t : Tm}, t ∈ l → t.size ≤ Tm.sizes l
 | y :: r, t, h => by
  rw [Tm.sizes];rcases List.mem_cons.1 h with rfl | h
  ·omega
  ·have := qjv h; omega
set_option maxHeartbeats 2000000 in
theorem qk1 (l : List Tm) (A : Option Addr) (cap : Nat) (w : World) (B : Nat) (hB : B ≤ w.heap.size) (hn : Tm.sizes l ≤ 1000000) (hrep : RepS w (fun b => b < B) l A cap) :
  Calls Tryz.prog 52 #[.slice A l.length cap] w (qfp w B (Tm.set (varsL l))) := by
 obtain ⟨hr1, hr2, hr4⟩ := hrep;have hls := Tm.length_le_sizes l;go_enter Tryz.func52, Tryz.ntmps52
 go_wp2_with fail
 go_loopw [3, 4] (fun v i wr => ∃ (k m c : Nat) (A' : Option Addr) (its : List It), k ≤ l.length ∧ i = .int .i64 k ∧ v = .slice A' m c ∧ Hid (RowT wr w.heap.size (fun b => b < B) (.slice A' m c) its) ∧
   Hid (its.map (·.1) = varsL (l.take k)) ∧ Hid (Below w.heap.size w wr))
  (fun _ i _ => l.length - (intOf i).toNat)
 case atStart => exact ⟨0, 0, 0, none, [], Nat.zero_le _, rfl, rfl, RowT.nil _ _ _, (by show _ = _; simp [varsL]), Below.refl _ _⟩
 case round =>
  obtain ⟨k, m, c, A', its, hk, rfl, rfl, HR, HM, HBW⟩ := hrel;have htl := Tm.sizes_take_le l k;have HML : Hid (m = its.length ∧ m ≤ Tm.sizes (l.take k)) := by
   have h2 := congrArg List.length HM.out;rw [List.length_map] at h2;have h3 := qe2 (l.take k);have h4 := HR.out.len;exact ⟨h4, by omega⟩
  by_cases hlt : k < l.length
  ·rcases hr4 with h | ⟨b, off, hA, hbB, hl⟩
   ·rw [h] at hlt; simp at hlt
   subst hA;have hlw : RepL wr B l b off := RepL.below hl (HBW.out.mono hB) hbB;obtain ⟨Ak, ck, h0, h1, h2, h3, h5⟩ := qao.get hlw k hlt;have hsg := Tm.sizes_get l k hlt;have hsw := HBW.out.size;have hC := qjx l[k] Ak ck wr B (by omega) (by omega) h5;rw [show Tm.set (l[k].all.filter fun u => u.kind == 1) = varsOf l[k] from rfl] at hC;have hvl := qcp l[k];have hsn := qmt l k hlt;have hvs : Tm.sizes (l.take k) + l[k].size ≤ 2000000 := by omega
   generalize varsOf l[k] = V at *;have HSN := Lib.hid hsn;have HC := Lib.hid hC;clear h5 hlw hsn hC;simp only [Tm.val] at HC;go_wp2_with fail
   refine HC.out.mono ?_;rintro e w1 ⟨A2, c2, m2, its2, rfl, hm2, hrow2, hbel2, hmap2⟩;have hs1 := hbel2.size;have hm0 := HML.out;obtain ⟨A3, c3, w2, hap, hrow3, hg3⟩ := qm0 (HR.out.below hbel2) (by omega) (by omega) hrow2 (by omega);have hb3 : Below w.heap.size w w2 := hg3 _ _ (HBW.out.trans (hbel2.mono hsw)) (Nat.le_refl _);rw [← hm0.1] at hap hrow3;have HM3 : Hid ((its ++ its2).map (·.1) = varsL (l.take (k + 1))) := by
    show _ = _;rw [List.map_append, HM.out, hmap2, HSN.out]
   have HR3 := Lib.hid hrow3; clear hrow3;have HB3 := Lib.hid hb3; clear hb3;clear hrow2 hbel2 hmap2 hg3 hm2 hm0;go_wp2_with (at_builtin; refine qam rfl _ _ rfl rfl rfl hap ?_)
   go_roundw
   case rel => exact ⟨k + 1, _, c3, A3, _, by omega, by go_num, rfl, HR3.out, HM3.out, HB3.out⟩
   case measure => simp [intOf]; omega
  ·obtain rfl : k = l.length := by omega
   have hm : its.map (·.1) = varsL l := by rw [HM.out, List.take_length]
   have hml : m ≤ 1000000 := by have := HML.out.2; rw [List.take_length] at this; omega
   have hS := set_any its w.heap.size A' m c wr B (by have := HBW.out.size; omega) HR.out hml (fun x hx => by
    have h1 : x.1 ∈ varsL l := by rw [← hm]; exact List.mem_map_of_mem hx
    obtain ⟨t, ht, hxt⟩ := varsL_mem h1;exact Nat.le_trans (qky hxt) (Nat.le_trans (qjv ht) hn))
   rw [hm] at hS;have HS := Lib.hid (hS.mono fun _ _ h => h.loosen HBW.out); clear hS hm;clear hr4;go_wp2_with fail
   refine HS.out.mono ?_;rintro e w2 ⟨A2, c2, n2, its2, rfl, hs⟩;have HS2 := Lib.hid hs; clear hs;go_wp2_with fail
   go_ret
   exact ⟨A2, c2, n2, its2, rfl, HS2.out⟩
end Go.Proofs.YtpjmdilpldaapaaGreatDoor
