/- UiLaw (joined by shake.py). -/
import Derived.Test.YtpjmdilpldaapaaGreatDoorJ17
import Derived.Test.YtpjmdilpldaapaaGreatDoorJ20
import Derived.Test.YtpjmdilpldaapaaGreatDoorJ24
import Derived.Test.YtpjmdilpldaapaaGreatDoorJ26
import Derived.Test.YtpjmdilpldaapaaGreatDoorJ27
import Derived.Deep.Cut
set_option maxRecDepth 100000
namespace Go.Proofs.YtpjmdilpldaapaaGreatDoor
open Go.RowKit Go.Sort
theorem qbj.less {M M' : Nat} {w : World} (h : M ≤ M') (H : qbj M' w) : qbj M w := fun i X hi hX => H i X (by omega) hX
attribute [local irreducible] qa0
set_option linter.unusedSimpArgs false in
set_option linter.unusedVariables false in
set_option maxHeartbeats 40000000 in
theorem uinst_law (t u : Tm) (T U : Option Addr) (ct cu : Nat) (l : List Bd) (L : Option Addr) (cl : Nat) (w : World) (HI : qbj 400 w) (rt : RepT w w.heap.size t T ct) (ru : RepT w w.heap.size u U cu) (rl : RepB w (fun b => b < w.heap.size) l L cl) :
  Calls Tryz.prog 8 #[t.val T ct, u.val U cu, .slice L l.length cl] w fun e w' => e = .returned (.bool true) ∧ Below w.heap.size w w' := by
 have mixed : Tryz.prog.follows .mixedOrders = true := by kernel_rfl
 have HF := Lib.hid (show qab w [] w from Below.refl _ _);have hlc := rl.1;have hlm := rl.2.1;unfold maxLen at hlm;obtain ⟨V, hV⟩ : ∃ V, V = (w.alloc (qa5 t T ct)).alloc (qa5 u U cu) := ⟨_, rfl⟩;have HA := HF.out.boxes2 rt ru;rw [← hV] at HA;obtain ⟨b0, hb0⟩ : ∃ b, b = w.heap.size := ⟨_, rfl⟩;have hb0w : w.heap.size ≤ b0 := by omega
 simp only [qa5] at hV;have HV := Lib.hid hV;have hbv := qab.bel HA;have HA := Lib.hid (HA.add (.binds l L cl) (rl.mono (fun b (h : b < w.heap.size) => Nat.lt_of_lt_of_le h hbv.size) (fun p hp => hbv.cell hp)));clear hV HF rt ru rl hbv;simp only [Tm.val];go_enter Tryz.func8, Tryz.ntmps8
 go_wp2_with fail
 rw [← HV.out, ← hb0];rw [← hb0] at HA;clear HV hb0;refine (qek w V (qab.bel HA.out) (qbj.less (by omega) HI)).mono ?_;rintro e w1 ⟨rfl, hb1⟩;have HB := Lib.hid (qab.below hb1 HA.out);clear HA hb1;by_cases h8 : 8 < l.length
 ·have d8 : decide ((8 : Int) < (l.length : Int)) = true := decide_eq_true (by omega);go_wp2_with fail
  refine (qek w w1 (qab.bel HB.out) (qbj.less (by omega) HI)).mono ?_;rintro e w3 ⟨rfl, hb3⟩;go_wp2_with fail
  go_ret
  exact ⟨rfl, qab.bel (qab.below hb3 HB.out)⟩
 have d8 : decide ((8 : Int) < (l.length : Int)) = false := decide_eq_false (by omega);have HFB := Lib.hid (qnu l L cl w1 (by omega) HB.out.1)
 cases hfb : fewB3 l with
 | false =>
  rw [hfb] at HFB;clear hfb;go_wp2_with fail
  refine HFB.out.mono ?_; clear HFB;rintro e w2 ⟨rfl, hb2⟩;have HB2 := Lib.hid (qab.below hb2 HB.out);clear HB hb2;go_wp2_with fail
  refine (qek w w2 (qab.bel HB2.out) (qbj.less (by omega) HI)).mono ?_;rintro e w3 ⟨rfl, hb3⟩;go_wp2_with fail
  go_ret
  exact ⟨rfl, qab.bel (qab.below hb3 HB2.out)⟩
 | true =>
 rw [hfb] at HFB;have HSL := Lib.hid (qok hfb);clear hfb;go_wp2_with fail
 refine HFB.out.mono ?_; clear HFB;rintro e w1b ⟨rfl, hb2⟩;have HB2 := Lib.hid (qab.below hb2 HB.out);clear HB hb2;obtain ⟨a0, a1, a2, a3, -⟩ := BoxT.cells HB2.out.2.2.1;obtain ⟨c0, c1, c2, c3, -⟩ := BoxT.cells HB2.out.2.1;obtain ⟨Z, hZ⟩ : ∃ Z, Z = w1b.alloc (.cells (itCells [(t, T, ct), (u, U, cu)]).toArray 24) := ⟨_, rfl⟩;have HC := Lib.hid (HB2.out.slice _ hZ (by simp) (fun x hx => by
  simp only [List.mem_cons, List.not_mem_nil, or_false] at hx;rcases hx with rfl | rfl
  ·exact HB2.out.2.2.1.2
  ·exact HB2.out.2.1.2))
 simp only [itCells, Tm.cells, List.cons_append, List.nil_append] at hZ;have HZ := Lib.hid hZ;clear hZ HB2;go_wp2_with fail
 rw [← HZ.out];refine (few_any [t, u] _ 2 2 450 Z (by decide) (by decide) HC.out.1).mono ?_;rintro e w2 ⟨rfl, hl2⟩;have HD := Lib.hid (qab.below hl2.below HC.out.2);clear HZ HC hl2 a0 a1 a2 a3 c0 c1 c2 c3;by_cases hle : (([t, u] : List Tm).length : Int) ≤ 2 ∧ 0 ≤ Tm.lefts [t, u] 450
 rotate_left
 ·rw [decide_eq_false hle];go_wp2_with fail
  refine (qek w w2 (qab.bel HD.out) (qbj.less (by omega) HI)).mono ?_;rintro e w3 ⟨rfl, hb3⟩;go_wp2_with fail
  go_ret
  exact ⟨rfl, qab.bel (qab.below hb3 HD.out)⟩
 have hsz := Tm.lefts_each (by decide) hle.2;have st : t.size ≤ 450 := by have := hsz t (by simp); omega
 have su : u.size ≤ 450 := by have := hsz u (by simp); omega
 rw [decide_eq_true hle];clear hle hsz;obtain ⟨fs, hfs⟩ : ∃ fs, fs = fitN l l.length := ⟨_, rfl⟩;have HFF : Hid (FitS fs) := Lib.hid (by rw [hfs]; exact fitN_fit l _);have HF4 : Hid (∀ b ∈ fs, b.2.size ≤ 400) := Lib.hid fun b hb => by rw [hfs] at hb; exact qai (qdk l _ b hb).2.2.2.1
 have HFZ : Hid (qfy fs) := Lib.hid fun b hb => by rw [hfs] at hb; exact HSL.out b (qdk l _ b hb).1
 have HFP : Hid (∀ y : Tm, y.check = 0 → y.rap fs = y.put fs) := Lib.hid fun y hy => by rw [hfs]; exact fitN_put l _ hy
 have UF : Hid (∀ Z : World, RepB Z (fun b => b < Z.heap.size) l L cl → Calls Tryz.prog 28 #[.slice L l.length cl] Z fun e w' => ∃ A c, e = .returned (.slice A fs.length c) ∧ RepB w' (fun b => b < w'.heap.size) fs A c ∧ Below Z.heap.size Z w') := Lib.hid fun Z hZ => by
  rw [hfs]; exact qkj l L cl Z (by omega) HSL.out hZ
 clear hfs h8 d8;have C1 := UF.out w2 (HD.out.1)
 try simp only [Tm.val] at C1
 have C1 := Lib.hid C1;go_wp2_with fail
 refine C1.out.mono ?_;rintro e w2 ⟨A5, c5, rfl, hr, hb⟩;clear C1;have HF3 := Lib.hid ((qab.below hb HD.out).add (.binds fs A5 c5) (hr));clear HD;clear hr hb;clear UF;obtain ⟨a, ha⟩ : ∃ a, a = t.rap fs := ⟨_, rfl⟩;obtain ⟨b, hb⟩ : ∃ b, b = u.rap fs := ⟨_, rfl⟩;obtain ⟨BD, hBD⟩ : ∃ B, B = w2.drew.heap.size := ⟨_, rfl⟩;have HBD := Lib.hid hBD;have HWD := Lib.hid (qab.below (V' := w2.drew) (Below.refl _ _).drew HF3.out);have IN2 : Hid (∀ X, Below w2.drew.heap.size w2.drew X → Calls Tryz.prog 16 #[.slice A5 fs.length c5, t.val T ct] X (Put w2.drew.heap.size a X)) := Lib.hid fun X hX => by
  rw [ha];exact qdz w2.drew.heap.size fs A5 c5 HFZ.out t.size t T ct X (Nat.le_refl _) (by omega) hX.size (RepB.mono (fun _ h => h) (fun p hp => hX.cell hp) HWD.out.1) (RepP.mono (fun _ h => h) (fun p hp => hX.cell hp) _ _ _ HWD.out.2.2.2.1.2)
 have IN5 : Hid (∀ X, Below w2.drew.heap.size w2.drew X → Calls Tryz.prog 16 #[.slice A5 fs.length c5, u.val U cu] X (Put w2.drew.heap.size b X)) := Lib.hid fun X hX => by
  rw [hb];exact qdz w2.drew.heap.size fs A5 c5 HFZ.out u.size u U cu X (Nat.le_refl _) (by omega) hX.size (RepB.mono (fun _ h => h) (fun p hp => hX.cell hp) HWD.out.1) (RepP.mono (fun _ h => h) (fun p hp => hX.cell hp) _ _ _ HWD.out.2.2.1.2)
 have HPA : Hid (a = t.rap fs) := Lib.hid ha;have HPB : Hid (b = u.rap fs) := Lib.hid hb;clear ha hb hBD;go_upto_region 4 with fail
 go_cut [8, 9] from 15 (fun v8 v9 wr => ∃ (p8 p9 : Nat) (Aa : Option Addr) (ca : Nat) (Ab : Option Addr) (cb : Nat), v8 = .pointer (some ⟨p8, 0, none⟩) ∧ v9 = .pointer (some ⟨p9, 0, none⟩) ∧ Hid (Below w2.drew.heap.size w2.drew wr) ∧ Hid (BoxT wr p8 a Aa ca) ∧ Hid (BoxT wr p9 b Ab cb))
 case first =>
  go_wp2_with fail
  refine qam (fun _ => True) (fun Y => Below BD w2.drew Y) [] (.held 0 (.held 1 (.held 3 (.held 4 (.three 2 6 7 (.three 5 6 7 (.two 6 7 (.op 7 (.op 8 (.op 9 .nil))) (.op 6 (.op 8 (.op 9 .nil)))) (.two 5 7 (.op 7 (.op 8 (.op 9 .nil))) (.op 5 (.op 8 (.op 9 .nil)))) (.two 5 6 (.op 6 (.op 8 (.op 9 .nil))) (.op 5 (.op 8 (.op 9 .nil))))) (.two 2 7 (.two 5 7 (.op 7 (.op 8 (.op 9 .nil))) (.op 5 (.op 8 (.op 9 .nil)))) (.op 2 (.op 5 (.op 8 (.op 9 .nil))))) (.two 2 6 (.two 5 6 (.op 6 (.op 8 (.op 9 .nil))) (.op 5 (.op 8 (.op 9 .nil)))) (.op 2 (.op 5 (.op 8 (.op 9 .nil)))))))))) mixed (by kernel_rfl) ?_;have HAP : Hid (APu w2.drew w2.drew []) := Lib.hid (APu.nil _);have HT : Hid (∀ Y, Below BD w2.drew Y → BoxT Y b0 t T ct ∧ BoxT Y (b0 + 1) u U cu) := Lib.hid fun Y hY => by
   rw [HBD.out] at hY;exact ⟨HWD.out.2.2.2.1.below hY, HWD.out.2.2.1.below hY⟩
  clear HWD;generalize w2.drew = D at *;refine qaa (v := .slice A5 fs.length c5) rfl rfl rfl (fun _ _ _ h => h) trivial (Below.refl BD D) (fun Y _ hY => by
   (try simp only [Act.put]); go_simp) ?_
  refine qaa (v := .agg #[.int .i64 t.kind, .string t.name, .int .i64 t.sort, .slice T t.kids.length ct]) rfl rfl rfl (fun _ _ _ h => h) trivial (Below.refl BD D) (fun Y _ hY => by
   obtain ⟨z0, z1, z2, z3, -⟩ := BoxT.cells (HT.out Y hY).1;clear hY
   (try simp only [Act.put]); go_simp) ?_
  refine qaa (v := .slice A5 fs.length c5) rfl rfl rfl (fun _ _ _ h => h) trivial (Below.refl BD D) (fun Y _ hY => by
   (try simp only [Act.put]); go_simp) ?_
  refine qaa (v := .agg #[.int .i64 u.kind, .string u.name, .int .i64 u.sort, .slice U u.kids.length cu]) rfl rfl rfl (fun _ _ _ h => h) trivial (Below.refl BD D) (fun Y _ hY => by
   obtain ⟨z0, z1, z2, z3, -⟩ := BoxT.cells (HT.out Y hY).2;clear hY
   (try simp only [Act.put]); go_simp) ?_
  refine qi1 ?w1x0 ?w1x1 ?w1x2
  case' w1x0 =>
   (try simp only [Act.put, List.setIfInBounds_toArray, List.set_cons_succ, List.set_cons_zero, List.getElem_toArray, List.getElem_cons_succ, List.getElem_cons_zero])
   refine qac rfl rfl (fun K hK => ?_);have HCC := Lib.hid (IN2.out D HAP.out.bel)
   (try simp only [Tm.val] at HCC)
   go_wp2_with fail
   refine HCC.out.mono ?_; clear HCC;rintro e y1 ⟨A2, c2, rfl, hr, hk⟩;have HI2 : Hid (qav y1 [] a A2 c2) := Lib.hid (qav.new HAP.out hr hk);have HAP' := Lib.hid (HAP.out.call hk);clear HAP;have HAP := HAP';clear HAP';refine hK _ _ ⟨⟨fun _ => trivial, by rw [HBD.out]; exact HAP.out.bel⟩, ?_⟩;clear hK K hr hk
   (try simp only [Tm.val])
   refine qi1 ?w2x0 ?w2x1 ?w2x2
   case' w2x0 =>
    (try simp only [Act.put, List.setIfInBounds_toArray, List.set_cons_succ, List.set_cons_zero, List.getElem_toArray, List.getElem_cons_succ, List.getElem_cons_zero])
    refine qac rfl rfl (fun K hK => ?_);have HCC := Lib.hid (IN5.out y1 HAP.out.bel)
    (try simp only [Tm.val] at HCC)
    go_wp2_with fail
    refine HCC.out.mono ?_; clear HCC;rintro e y2 ⟨A5x, c5x, rfl, hr, hk⟩;have HI5 : Hid (qav y2 [] b A5x c5x) := Lib.hid (qav.new HAP.out hr hk);have HI2' := Lib.hid (HI2.out.call hk);clear HI2;have HI2 := HI2';clear HI2';have HAP' := Lib.hid (HAP.out.call hk);clear HAP;have HAP := HAP';clear HAP';refine hK _ _ ⟨⟨fun _ => trivial, by rw [HBD.out]; exact HAP.out.bel⟩, ?_⟩;clear hK K hr hk
    (try simp only [Tm.val])
    refine qa3 ?w3x0 ?w3x1
    case' w3x0 =>
     (try simp only [Act.put, List.setIfInBounds_toArray, List.set_cons_succ, List.set_cons_zero, List.getElem_toArray, List.getElem_cons_succ, List.getElem_cons_zero])
     refine qac rfl rfl (fun K hK => ?_);go_wp2_with fail
     obtain ⟨y3, hw⟩ : ∃ Z, Z = y2.alloc (.cells #[.int .i64 0, .string ⟨#[]⟩, .int .i64 0, .slice none 0 0] 24) := ⟨_, rfl⟩;rw [← hw];have HI2' := Lib.hid (HI2.out.alloc hw);clear HI2;have HI2 := HI2';clear HI2';have HI5' := Lib.hid (HI5.out.alloc hw);clear HI5;have HI5 := HI5';clear HI5';have HAP' := Lib.hid (HAP.out.alloc hw);clear HAP;have HAP := HAP';clear HAP';obtain ⟨p6, hp⟩ : ∃ p, p = y2.heap.size := ⟨_, rfl⟩;rw [← hp] at HAP HI2 HI5;rw [← hp];refine ⟨⟨fun _ => trivial, by rw [HBD.out]; exact HAP.out.bel⟩, ?_⟩;clear hw hp
     (try simp only [Act.put, List.setIfInBounds_toArray, List.set_cons_succ, List.set_cons_zero, List.getElem_toArray, List.getElem_cons_succ, List.getElem_cons_zero])
     refine qac rfl rfl (fun K hK => ?_);go_wp2_with fail
     obtain ⟨y4, hw⟩ : ∃ Z, Z = y3.alloc (.cells #[.int .i64 0, .string ⟨#[]⟩, .int .i64 0, .slice none 0 0] 24) := ⟨_, rfl⟩;rw [← hw];have HI2' := Lib.hid (HI2.out.alloc hw);clear HI2;have HI2 := HI2';clear HI2';have HI5' := Lib.hid (HI5.out.alloc hw);clear HI5;have HI5 := HI5';clear HI5';have HAP' := Lib.hid (HAP.out.alloc hw);clear HAP;have HAP := HAP';clear HAP';obtain ⟨p7, hp⟩ : ∃ p, p = y3.heap.size := ⟨_, rfl⟩;rw [← hp] at HAP HI2 HI5;rw [← hp];refine ⟨⟨fun _ => trivial, by rw [HBD.out]; exact HAP.out.bel⟩, ?_⟩;clear hw hp
    case' w3x1 =>
     (try simp only [Act.put, List.setIfInBounds_toArray, List.set_cons_succ, List.set_cons_zero, List.getElem_toArray, List.getElem_cons_succ, List.getElem_cons_zero])
     refine qac rfl rfl (fun K hK => ?_);go_wp2_with fail
     obtain ⟨y3, hw⟩ : ∃ Z, Z = y2.alloc (.cells #[.int .i64 0, .string ⟨#[]⟩, .int .i64 0, .slice none 0 0] 24) := ⟨_, rfl⟩;rw [← hw];have HI2' := Lib.hid (HI2.out.alloc hw);clear HI2;have HI2 := HI2';clear HI2';have HI5' := Lib.hid (HI5.out.alloc hw);clear HI5;have HI5 := HI5';clear HI5';have HAP' := Lib.hid (HAP.out.alloc hw);clear HAP;have HAP := HAP';clear HAP';obtain ⟨p7, hp⟩ : ∃ p, p = y2.heap.size := ⟨_, rfl⟩;rw [← hp] at HAP HI2 HI5;rw [← hp];refine ⟨⟨fun _ => trivial, by rw [HBD.out]; exact HAP.out.bel⟩, ?_⟩;clear hw hp
     (try simp only [Act.put, List.setIfInBounds_toArray, List.set_cons_succ, List.set_cons_zero, List.getElem_toArray, List.getElem_cons_succ, List.getElem_cons_zero])
     refine qac rfl rfl (fun K hK => ?_);go_wp2_with fail
     obtain ⟨y4, hw⟩ : ∃ Z, Z = y3.alloc (.cells #[.int .i64 0, .string ⟨#[]⟩, .int .i64 0, .slice none 0 0] 24) := ⟨_, rfl⟩;rw [← hw];have HI2' := Lib.hid (HI2.out.alloc hw);clear HI2;have HI2 := HI2';clear HI2';have HI5' := Lib.hid (HI5.out.alloc hw);clear HI5;have HI5 := HI5';clear HI5';have HAP' := Lib.hid (HAP.out.alloc hw);clear HAP;have HAP := HAP';clear HAP';obtain ⟨p6, hp⟩ : ∃ p, p = y3.heap.size := ⟨_, rfl⟩;rw [← hp] at HAP HI2 HI5;rw [← hp];refine ⟨⟨fun _ => trivial, by rw [HBD.out]; exact HAP.out.bel⟩, ?_⟩;clear hw hp
   case' w2x1 =>
    (try simp only [Act.put, List.setIfInBounds_toArray, List.set_cons_succ, List.set_cons_zero, List.getElem_toArray, List.getElem_cons_succ, List.getElem_cons_zero])
    refine qac rfl rfl (fun K hK => ?_);go_wp2_with fail
    obtain ⟨y2, hw⟩ : ∃ Z, Z = y1.alloc (.cells #[.int .i64 0, .string ⟨#[]⟩, .int .i64 0, .slice none 0 0] 24) := ⟨_, rfl⟩;rw [← hw];have HI2' := Lib.hid (HI2.out.alloc hw);clear HI2;have HI2 := HI2';clear HI2';have HAP' := Lib.hid (HAP.out.alloc hw);clear HAP;have HAP := HAP';clear HAP';obtain ⟨p6, hp⟩ : ∃ p, p = y1.heap.size := ⟨_, rfl⟩;rw [← hp] at HAP HI2;rw [← hp];refine ⟨⟨fun _ => trivial, by rw [HBD.out]; exact HAP.out.bel⟩, ?_⟩;clear hw hp;refine qa3 ?w4x0 ?w4x1
    case' w4x0 =>
     (try simp only [Act.put, List.setIfInBounds_toArray, List.set_cons_succ, List.set_cons_zero, List.getElem_toArray, List.getElem_cons_succ, List.getElem_cons_zero])
     refine qac rfl rfl (fun K hK => ?_);have HCC := Lib.hid (IN5.out y2 HAP.out.bel)
     (try simp only [Tm.val] at HCC)
     go_wp2_with fail
     refine HCC.out.mono ?_; clear HCC;rintro e y3 ⟨A5x, c5x, rfl, hr, hk⟩;have HI5 : Hid (qav y3 [p6] b A5x c5x) := Lib.hid (qav.new HAP.out hr hk);have HI2' := Lib.hid (HI2.out.call hk);clear HI2;have HI2 := HI2';clear HI2';have HAP' := Lib.hid (HAP.out.call hk);clear HAP;have HAP := HAP';clear HAP';refine hK _ _ ⟨⟨fun _ => trivial, by rw [HBD.out]; exact HAP.out.bel⟩, ?_⟩;clear hK K hr hk
     (try simp only [Tm.val])
     (try simp only [Act.put, List.setIfInBounds_toArray, List.set_cons_succ, List.set_cons_zero, List.getElem_toArray, List.getElem_cons_succ, List.getElem_cons_zero])
     refine qac rfl rfl (fun K hK => ?_);go_wp2_with fail
     obtain ⟨y4, hw⟩ : ∃ Z, Z = y3.alloc (.cells #[.int .i64 0, .string ⟨#[]⟩, .int .i64 0, .slice none 0 0] 24) := ⟨_, rfl⟩;rw [← hw];have HI2' := Lib.hid (HI2.out.alloc hw);clear HI2;have HI2 := HI2';clear HI2';have HI5' := Lib.hid (HI5.out.alloc hw);clear HI5;have HI5 := HI5';clear HI5';have HAP' := Lib.hid (HAP.out.alloc hw);clear HAP;have HAP := HAP';clear HAP';obtain ⟨p7, hp⟩ : ∃ p, p = y3.heap.size := ⟨_, rfl⟩;rw [← hp] at HAP HI2 HI5;rw [← hp];refine ⟨⟨fun _ => trivial, by rw [HBD.out]; exact HAP.out.bel⟩, ?_⟩;clear hw hp
    case' w4x1 =>
     (try simp only [Act.put, List.setIfInBounds_toArray, List.set_cons_succ, List.set_cons_zero, List.getElem_toArray, List.getElem_cons_succ, List.getElem_cons_zero])
     refine qac rfl rfl (fun K hK => ?_);go_wp2_with fail
     obtain ⟨y3, hw⟩ : ∃ Z, Z = y2.alloc (.cells #[.int .i64 0, .string ⟨#[]⟩, .int .i64 0, .slice none 0 0] 24) := ⟨_, rfl⟩;rw [← hw];have HI2' := Lib.hid (HI2.out.alloc hw);clear HI2;have HI2 := HI2';clear HI2';have HAP' := Lib.hid (HAP.out.alloc hw);clear HAP;have HAP := HAP';clear HAP';obtain ⟨p7, hp⟩ : ∃ p, p = y2.heap.size := ⟨_, rfl⟩;rw [← hp] at HAP HI2;rw [← hp];refine ⟨⟨fun _ => trivial, by rw [HBD.out]; exact HAP.out.bel⟩, ?_⟩;clear hw hp
     (try simp only [Act.put, List.setIfInBounds_toArray, List.set_cons_succ, List.set_cons_zero, List.getElem_toArray, List.getElem_cons_succ, List.getElem_cons_zero])
     refine qac rfl rfl (fun K hK => ?_);have HCC := Lib.hid (IN5.out y3 HAP.out.bel)
     (try simp only [Tm.val] at HCC)
     go_wp2_with fail
     refine HCC.out.mono ?_; clear HCC;rintro e y4 ⟨A5x, c5x, rfl, hr, hk⟩;have HI5 : Hid (qav y4 [p7, p6] b A5x c5x) := Lib.hid (qav.new HAP.out hr hk);have HI2' := Lib.hid (HI2.out.call hk);clear HI2;have HI2 := HI2';clear HI2';have HAP' := Lib.hid (HAP.out.call hk);clear HAP;have HAP := HAP';clear HAP';refine hK _ _ ⟨⟨fun _ => trivial, by rw [HBD.out]; exact HAP.out.bel⟩, ?_⟩;clear hK K hr hk
     (try simp only [Tm.val])
   case' w2x2 =>
    (try simp only [Act.put, List.setIfInBounds_toArray, List.set_cons_succ, List.set_cons_zero, List.getElem_toArray, List.getElem_cons_succ, List.getElem_cons_zero])
    refine qac rfl rfl (fun K hK => ?_);go_wp2_with fail
    obtain ⟨y2, hw⟩ : ∃ Z, Z = y1.alloc (.cells #[.int .i64 0, .string ⟨#[]⟩, .int .i64 0, .slice none 0 0] 24) := ⟨_, rfl⟩;rw [← hw];have HI2' := Lib.hid (HI2.out.alloc hw);clear HI2;have HI2 := HI2';clear HI2';have HAP' := Lib.hid (HAP.out.alloc hw);clear HAP;have HAP := HAP';clear HAP';obtain ⟨p7, hp⟩ : ∃ p, p = y1.heap.size := ⟨_, rfl⟩;rw [← hp] at HAP HI2;rw [← hp];refine ⟨⟨fun _ => trivial, by rw [HBD.out]; exact HAP.out.bel⟩, ?_⟩;clear hw hp;refine qa3 ?w5x0 ?w5x1
    case' w5x0 =>
     (try simp only [Act.put, List.setIfInBounds_toArray, List.set_cons_succ, List.set_cons_zero, List.getElem_toArray, List.getElem_cons_succ, List.getElem_cons_zero])
     refine qac rfl rfl (fun K hK => ?_);have HCC := Lib.hid (IN5.out y2 HAP.out.bel)
     (try simp only [Tm.val] at HCC)
     go_wp2_with fail
     refine HCC.out.mono ?_; clear HCC;rintro e y3 ⟨A5x, c5x, rfl, hr, hk⟩;have HI5 : Hid (qav y3 [p7] b A5x c5x) := Lib.hid (qav.new HAP.out hr hk);have HI2' := Lib.hid (HI2.out.call hk);clear HI2;have HI2 := HI2';clear HI2';have HAP' := Lib.hid (HAP.out.call hk);clear HAP;have HAP := HAP';clear HAP';refine hK _ _ ⟨⟨fun _ => trivial, by rw [HBD.out]; exact HAP.out.bel⟩, ?_⟩;clear hK K hr hk
     (try simp only [Tm.val])
     (try simp only [Act.put, List.setIfInBounds_toArray, List.set_cons_succ, List.set_cons_zero, List.getElem_toArray, List.getElem_cons_succ, List.getElem_cons_zero])
     refine qac rfl rfl (fun K hK => ?_);go_wp2_with fail
     obtain ⟨y4, hw⟩ : ∃ Z, Z = y3.alloc (.cells #[.int .i64 0, .string ⟨#[]⟩, .int .i64 0, .slice none 0 0] 24) := ⟨_, rfl⟩;rw [← hw];have HI2' := Lib.hid (HI2.out.alloc hw);clear HI2;have HI2 := HI2';clear HI2';have HI5' := Lib.hid (HI5.out.alloc hw);clear HI5;have HI5 := HI5';clear HI5';have HAP' := Lib.hid (HAP.out.alloc hw);clear HAP;have HAP := HAP';clear HAP';obtain ⟨p6, hp⟩ : ∃ p, p = y3.heap.size := ⟨_, rfl⟩;rw [← hp] at HAP HI2 HI5;rw [← hp];refine ⟨⟨fun _ => trivial, by rw [HBD.out]; exact HAP.out.bel⟩, ?_⟩;clear hw hp
    case' w5x1 =>
     (try simp only [Act.put, List.setIfInBounds_toArray, List.set_cons_succ, List.set_cons_zero, List.getElem_toArray, List.getElem_cons_succ, List.getElem_cons_zero])
     refine qac rfl rfl (fun K hK => ?_);go_wp2_with fail
     obtain ⟨y3, hw⟩ : ∃ Z, Z = y2.alloc (.cells #[.int .i64 0, .string ⟨#[]⟩, .int .i64 0, .slice none 0 0] 24) := ⟨_, rfl⟩;rw [← hw];have HI2' := Lib.hid (HI2.out.alloc hw);clear HI2;have HI2 := HI2';clear HI2';have HAP' := Lib.hid (HAP.out.alloc hw);clear HAP;have HAP := HAP';clear HAP';obtain ⟨p6, hp⟩ : ∃ p, p = y2.heap.size := ⟨_, rfl⟩;rw [← hp] at HAP HI2;rw [← hp];refine ⟨⟨fun _ => trivial, by rw [HBD.out]; exact HAP.out.bel⟩, ?_⟩;clear hw hp
     (try simp only [Act.put, List.setIfInBounds_toArray, List.set_cons_succ, List.set_cons_zero, List.getElem_toArray, List.getElem_cons_succ, List.getElem_cons_zero])
     refine qac rfl rfl (fun K hK => ?_);have HCC := Lib.hid (IN5.out y3 HAP.out.bel)
     (try simp only [Tm.val] at HCC)
     go_wp2_with fail
     refine HCC.out.mono ?_; clear HCC;rintro e y4 ⟨A5x, c5x, rfl, hr, hk⟩;have HI5 : Hid (qav y4 [p6, p7] b A5x c5x) := Lib.hid (qav.new HAP.out hr hk);have HI2' := Lib.hid (HI2.out.call hk);clear HI2;have HI2 := HI2';clear HI2';have HAP' := Lib.hid (HAP.out.call hk);clear HAP;have HAP := HAP';clear HAP';refine hK _ _ ⟨⟨fun _ => trivial, by rw [HBD.out]; exact HAP.out.bel⟩, ?_⟩;clear hK K hr hk
     (try simp only [Tm.val])
  case' w1x1 =>
   (try simp only [Act.put, List.setIfInBounds_toArray, List.set_cons_succ, List.set_cons_zero, List.getElem_toArray, List.getElem_cons_succ, List.getElem_cons_zero])
   refine qac rfl rfl (fun K hK => ?_);go_wp2_with fail
   obtain ⟨y1, hw⟩ : ∃ Z, Z = D.alloc (.cells #[.int .i64 0, .string ⟨#[]⟩, .int .i64 0, .slice none 0 0] 24) := ⟨_, rfl⟩;rw [← hw];have HAP' := Lib.hid (HAP.out.alloc hw);clear HAP;have HAP := HAP';clear HAP';obtain ⟨p6, hp⟩ : ∃ p, p = D.heap.size := ⟨_, rfl⟩;rw [← hp] at HAP;rw [← hp];refine ⟨⟨fun _ => trivial, by rw [HBD.out]; exact HAP.out.bel⟩, ?_⟩;clear hw hp;refine qa3 ?w6x0 ?w6x1
   case' w6x0 =>
    (try simp only [Act.put, List.setIfInBounds_toArray, List.set_cons_succ, List.set_cons_zero, List.getElem_toArray, List.getElem_cons_succ, List.getElem_cons_zero])
    refine qac rfl rfl (fun K hK => ?_);have HCC := Lib.hid (IN2.out y1 HAP.out.bel)
    (try simp only [Tm.val] at HCC)
    go_wp2_with fail
    refine HCC.out.mono ?_; clear HCC;rintro e y2 ⟨A2, c2, rfl, hr, hk⟩;have HI2 : Hid (qav y2 [p6] a A2 c2) := Lib.hid (qav.new HAP.out hr hk);have HAP' := Lib.hid (HAP.out.call hk);clear HAP;have HAP := HAP';clear HAP';refine hK _ _ ⟨⟨fun _ => trivial, by rw [HBD.out]; exact HAP.out.bel⟩, ?_⟩;clear hK K hr hk
    (try simp only [Tm.val])
    refine qa3 ?w7x0 ?w7x1
    case' w7x0 =>
     (try simp only [Act.put, List.setIfInBounds_toArray, List.set_cons_succ, List.set_cons_zero, List.getElem_toArray, List.getElem_cons_succ, List.getElem_cons_zero])
     refine qac rfl rfl (fun K hK => ?_);have HCC := Lib.hid (IN5.out y2 HAP.out.bel)
     (try simp only [Tm.val] at HCC)
     go_wp2_with fail
     refine HCC.out.mono ?_; clear HCC;rintro e y3 ⟨A5x, c5x, rfl, hr, hk⟩;have HI5 : Hid (qav y3 [p6] b A5x c5x) := Lib.hid (qav.new HAP.out hr hk);have HI2' := Lib.hid (HI2.out.call hk);clear HI2;have HI2 := HI2';clear HI2';have HAP' := Lib.hid (HAP.out.call hk);clear HAP;have HAP := HAP';clear HAP';refine hK _ _ ⟨⟨fun _ => trivial, by rw [HBD.out]; exact HAP.out.bel⟩, ?_⟩;clear hK K hr hk
     (try simp only [Tm.val])
     (try simp only [Act.put, List.setIfInBounds_toArray, List.set_cons_succ, List.set_cons_zero, List.getElem_toArray, List.getElem_cons_succ, List.getElem_cons_zero])
     refine qac rfl rfl (fun K hK => ?_);go_wp2_with fail
     obtain ⟨y4, hw⟩ : ∃ Z, Z = y3.alloc (.cells #[.int .i64 0, .string ⟨#[]⟩, .int .i64 0, .slice none 0 0] 24) := ⟨_, rfl⟩;rw [← hw];have HI2' := Lib.hid (HI2.out.alloc hw);clear HI2;have HI2 := HI2';clear HI2';have HI5' := Lib.hid (HI5.out.alloc hw);clear HI5;have HI5 := HI5';clear HI5';have HAP' := Lib.hid (HAP.out.alloc hw);clear HAP;have HAP := HAP';clear HAP';obtain ⟨p7, hp⟩ : ∃ p, p = y3.heap.size := ⟨_, rfl⟩;rw [← hp] at HAP HI2 HI5;rw [← hp];refine ⟨⟨fun _ => trivial, by rw [HBD.out]; exact HAP.out.bel⟩, ?_⟩;clear hw hp
    case' w7x1 =>
     (try simp only [Act.put, List.setIfInBounds_toArray, List.set_cons_succ, List.set_cons_zero, List.getElem_toArray, List.getElem_cons_succ, List.getElem_cons_zero])
     refine qac rfl rfl (fun K hK => ?_);go_wp2_with fail
     obtain ⟨y3, hw⟩ : ∃ Z, Z = y2.alloc (.cells #[.int .i64 0, .string ⟨#[]⟩, .int .i64 0, .slice none 0 0] 24) := ⟨_, rfl⟩;rw [← hw];have HI2' := Lib.hid (HI2.out.alloc hw);clear HI2;have HI2 := HI2';clear HI2';have HAP' := Lib.hid (HAP.out.alloc hw);clear HAP;have HAP := HAP';clear HAP';obtain ⟨p7, hp⟩ : ∃ p, p = y2.heap.size := ⟨_, rfl⟩;rw [← hp] at HAP HI2;rw [← hp];refine ⟨⟨fun _ => trivial, by rw [HBD.out]; exact HAP.out.bel⟩, ?_⟩;clear hw hp
     (try simp only [Act.put, List.setIfInBounds_toArray, List.set_cons_succ, List.set_cons_zero, List.getElem_toArray, List.getElem_cons_succ, List.getElem_cons_zero])
     refine qac rfl rfl (fun K hK => ?_);have HCC := Lib.hid (IN5.out y3 HAP.out.bel)
     (try simp only [Tm.val] at HCC)
     go_wp2_with fail
     refine HCC.out.mono ?_; clear HCC;rintro e y4 ⟨A5x, c5x, rfl, hr, hk⟩;have HI5 : Hid (qav y4 [p7, p6] b A5x c5x) := Lib.hid (qav.new HAP.out hr hk);have HI2' := Lib.hid (HI2.out.call hk);clear HI2;have HI2 := HI2';clear HI2';have HAP' := Lib.hid (HAP.out.call hk);clear HAP;have HAP := HAP';clear HAP';refine hK _ _ ⟨⟨fun _ => trivial, by rw [HBD.out]; exact HAP.out.bel⟩, ?_⟩;clear hK K hr hk
     (try simp only [Tm.val])
   case' w6x1 =>
    (try simp only [Act.put, List.setIfInBounds_toArray, List.set_cons_succ, List.set_cons_zero, List.getElem_toArray, List.getElem_cons_succ, List.getElem_cons_zero])
    refine qac rfl rfl (fun K hK => ?_);go_wp2_with fail
    obtain ⟨y2, hw⟩ : ∃ Z, Z = y1.alloc (.cells #[.int .i64 0, .string ⟨#[]⟩, .int .i64 0, .slice none 0 0] 24) := ⟨_, rfl⟩;rw [← hw];have HAP' := Lib.hid (HAP.out.alloc hw);clear HAP;have HAP := HAP';clear HAP';obtain ⟨p7, hp⟩ : ∃ p, p = y1.heap.size := ⟨_, rfl⟩;rw [← hp] at HAP;rw [← hp];refine ⟨⟨fun _ => trivial, by rw [HBD.out]; exact HAP.out.bel⟩, ?_⟩;clear hw hp
    (try simp only [Act.put, List.setIfInBounds_toArray, List.set_cons_succ, List.set_cons_zero, List.getElem_toArray, List.getElem_cons_succ, List.getElem_cons_zero])
    refine qac rfl rfl (fun K hK => ?_);have HCC := Lib.hid (IN2.out y2 HAP.out.bel)
    (try simp only [Tm.val] at HCC)
    go_wp2_with fail
    refine HCC.out.mono ?_; clear HCC;rintro e y3 ⟨A2, c2, rfl, hr, hk⟩;have HI2 : Hid (qav y3 [p7, p6] a A2 c2) := Lib.hid (qav.new HAP.out hr hk);have HAP' := Lib.hid (HAP.out.call hk);clear HAP;have HAP := HAP';clear HAP';refine hK _ _ ⟨⟨fun _ => trivial, by rw [HBD.out]; exact HAP.out.bel⟩, ?_⟩;clear hK K hr hk
    (try simp only [Tm.val])
    (try simp only [Act.put, List.setIfInBounds_toArray, List.set_cons_succ, List.set_cons_zero, List.getElem_toArray, List.getElem_cons_succ, List.getElem_cons_zero])
    refine qac rfl rfl (fun K hK => ?_);have HCC := Lib.hid (IN5.out y3 HAP.out.bel)
    (try simp only [Tm.val] at HCC)
    go_wp2_with fail
    refine HCC.out.mono ?_; clear HCC;rintro e y4 ⟨A5x, c5x, rfl, hr, hk⟩;have HI5 : Hid (qav y4 [p7, p6] b A5x c5x) := Lib.hid (qav.new HAP.out hr hk);have HI2' := Lib.hid (HI2.out.call hk);clear HI2;have HI2 := HI2';clear HI2';have HAP' := Lib.hid (HAP.out.call hk);clear HAP;have HAP := HAP';clear HAP';refine hK _ _ ⟨⟨fun _ => trivial, by rw [HBD.out]; exact HAP.out.bel⟩, ?_⟩;clear hK K hr hk
    (try simp only [Tm.val])
  case' w1x2 =>
   (try simp only [Act.put, List.setIfInBounds_toArray, List.set_cons_succ, List.set_cons_zero, List.getElem_toArray, List.getElem_cons_succ, List.getElem_cons_zero])
   refine qac rfl rfl (fun K hK => ?_);go_wp2_with fail
   obtain ⟨y1, hw⟩ : ∃ Z, Z = D.alloc (.cells #[.int .i64 0, .string ⟨#[]⟩, .int .i64 0, .slice none 0 0] 24) := ⟨_, rfl⟩;rw [← hw];have HAP' := Lib.hid (HAP.out.alloc hw);clear HAP;have HAP := HAP';clear HAP';obtain ⟨p7, hp⟩ : ∃ p, p = D.heap.size := ⟨_, rfl⟩;rw [← hp] at HAP;rw [← hp];refine ⟨⟨fun _ => trivial, by rw [HBD.out]; exact HAP.out.bel⟩, ?_⟩;clear hw hp;refine qa3 ?w8x0 ?w8x1
   case' w8x0 =>
    (try simp only [Act.put, List.setIfInBounds_toArray, List.set_cons_succ, List.set_cons_zero, List.getElem_toArray, List.getElem_cons_succ, List.getElem_cons_zero])
    refine qac rfl rfl (fun K hK => ?_);have HCC := Lib.hid (IN2.out y1 HAP.out.bel)
    (try simp only [Tm.val] at HCC)
    go_wp2_with fail
    refine HCC.out.mono ?_; clear HCC;rintro e y2 ⟨A2, c2, rfl, hr, hk⟩;have HI2 : Hid (qav y2 [p7] a A2 c2) := Lib.hid (qav.new HAP.out hr hk);have HAP' := Lib.hid (HAP.out.call hk);clear HAP;have HAP := HAP';clear HAP';refine hK _ _ ⟨⟨fun _ => trivial, by rw [HBD.out]; exact HAP.out.bel⟩, ?_⟩;clear hK K hr hk
    (try simp only [Tm.val])
    refine qa3 ?w9x0 ?w9x1
    case' w9x0 =>
     (try simp only [Act.put, List.setIfInBounds_toArray, List.set_cons_succ, List.set_cons_zero, List.getElem_toArray, List.getElem_cons_succ, List.getElem_cons_zero])
     refine qac rfl rfl (fun K hK => ?_);have HCC := Lib.hid (IN5.out y2 HAP.out.bel)
     (try simp only [Tm.val] at HCC)
     go_wp2_with fail
     refine HCC.out.mono ?_; clear HCC;rintro e y3 ⟨A5x, c5x, rfl, hr, hk⟩;have HI5 : Hid (qav y3 [p7] b A5x c5x) := Lib.hid (qav.new HAP.out hr hk);have HI2' := Lib.hid (HI2.out.call hk);clear HI2;have HI2 := HI2';clear HI2';have HAP' := Lib.hid (HAP.out.call hk);clear HAP;have HAP := HAP';clear HAP';refine hK _ _ ⟨⟨fun _ => trivial, by rw [HBD.out]; exact HAP.out.bel⟩, ?_⟩;clear hK K hr hk
     (try simp only [Tm.val])
     (try simp only [Act.put, List.setIfInBounds_toArray, List.set_cons_succ, List.set_cons_zero, List.getElem_toArray, List.getElem_cons_succ, List.getElem_cons_zero])
     refine qac rfl rfl (fun K hK => ?_);go_wp2_with fail
     obtain ⟨y4, hw⟩ : ∃ Z, Z = y3.alloc (.cells #[.int .i64 0, .string ⟨#[]⟩, .int .i64 0, .slice none 0 0] 24) := ⟨_, rfl⟩;rw [← hw];have HI2' := Lib.hid (HI2.out.alloc hw);clear HI2;have HI2 := HI2';clear HI2';have HI5' := Lib.hid (HI5.out.alloc hw);clear HI5;have HI5 := HI5';clear HI5';have HAP' := Lib.hid (HAP.out.alloc hw);clear HAP;have HAP := HAP';clear HAP';obtain ⟨p6, hp⟩ : ∃ p, p = y3.heap.size := ⟨_, rfl⟩;rw [← hp] at HAP HI2 HI5;rw [← hp];refine ⟨⟨fun _ => trivial, by rw [HBD.out]; exact HAP.out.bel⟩, ?_⟩;clear hw hp
    case' w9x1 =>
     (try simp only [Act.put, List.setIfInBounds_toArray, List.set_cons_succ, List.set_cons_zero, List.getElem_toArray, List.getElem_cons_succ, List.getElem_cons_zero])
     refine qac rfl rfl (fun K hK => ?_);go_wp2_with fail
     obtain ⟨y3, hw⟩ : ∃ Z, Z = y2.alloc (.cells #[.int .i64 0, .string ⟨#[]⟩, .int .i64 0, .slice none 0 0] 24) := ⟨_, rfl⟩;rw [← hw];have HI2' := Lib.hid (HI2.out.alloc hw);clear HI2;have HI2 := HI2';clear HI2';have HAP' := Lib.hid (HAP.out.alloc hw);clear HAP;have HAP := HAP';clear HAP';obtain ⟨p6, hp⟩ : ∃ p, p = y2.heap.size := ⟨_, rfl⟩;rw [← hp] at HAP HI2;rw [← hp];refine ⟨⟨fun _ => trivial, by rw [HBD.out]; exact HAP.out.bel⟩, ?_⟩;clear hw hp
     (try simp only [Act.put, List.setIfInBounds_toArray, List.set_cons_succ, List.set_cons_zero, List.getElem_toArray, List.getElem_cons_succ, List.getElem_cons_zero])
     refine qac rfl rfl (fun K hK => ?_);have HCC := Lib.hid (IN5.out y3 HAP.out.bel)
     (try simp only [Tm.val] at HCC)
     go_wp2_with fail
     refine HCC.out.mono ?_; clear HCC;rintro e y4 ⟨A5x, c5x, rfl, hr, hk⟩;have HI5 : Hid (qav y4 [p6, p7] b A5x c5x) := Lib.hid (qav.new HAP.out hr hk);have HI2' := Lib.hid (HI2.out.call hk);clear HI2;have HI2 := HI2';clear HI2';have HAP' := Lib.hid (HAP.out.call hk);clear HAP;have HAP := HAP';clear HAP';refine hK _ _ ⟨⟨fun _ => trivial, by rw [HBD.out]; exact HAP.out.bel⟩, ?_⟩;clear hK K hr hk
     (try simp only [Tm.val])
   case' w8x1 =>
    (try simp only [Act.put, List.setIfInBounds_toArray, List.set_cons_succ, List.set_cons_zero, List.getElem_toArray, List.getElem_cons_succ, List.getElem_cons_zero])
    refine qac rfl rfl (fun K hK => ?_);go_wp2_with fail
    obtain ⟨y2, hw⟩ : ∃ Z, Z = y1.alloc (.cells #[.int .i64 0, .string ⟨#[]⟩, .int .i64 0, .slice none 0 0] 24) := ⟨_, rfl⟩;rw [← hw];have HAP' := Lib.hid (HAP.out.alloc hw);clear HAP;have HAP := HAP';clear HAP';obtain ⟨p6, hp⟩ : ∃ p, p = y1.heap.size := ⟨_, rfl⟩;rw [← hp] at HAP;rw [← hp];refine ⟨⟨fun _ => trivial, by rw [HBD.out]; exact HAP.out.bel⟩, ?_⟩;clear hw hp
    (try simp only [Act.put, List.setIfInBounds_toArray, List.set_cons_succ, List.set_cons_zero, List.getElem_toArray, List.getElem_cons_succ, List.getElem_cons_zero])
    refine qac rfl rfl (fun K hK => ?_);have HCC := Lib.hid (IN2.out y2 HAP.out.bel)
    (try simp only [Tm.val] at HCC)
    go_wp2_with fail
    refine HCC.out.mono ?_; clear HCC;rintro e y3 ⟨A2, c2, rfl, hr, hk⟩;have HI2 : Hid (qav y3 [p6, p7] a A2 c2) := Lib.hid (qav.new HAP.out hr hk);have HAP' := Lib.hid (HAP.out.call hk);clear HAP;have HAP := HAP';clear HAP';refine hK _ _ ⟨⟨fun _ => trivial, by rw [HBD.out]; exact HAP.out.bel⟩, ?_⟩;clear hK K hr hk
    (try simp only [Tm.val])
    (try simp only [Act.put, List.setIfInBounds_toArray, List.set_cons_succ, List.set_cons_zero, List.getElem_toArray, List.getElem_cons_succ, List.getElem_cons_zero])
    refine qac rfl rfl (fun K hK => ?_);have HCC := Lib.hid (IN5.out y3 HAP.out.bel)
    (try simp only [Tm.val] at HCC)
    go_wp2_with fail
    refine HCC.out.mono ?_; clear HCC;rintro e y4 ⟨A5x, c5x, rfl, hr, hk⟩;have HI5 : Hid (qav y4 [p6, p7] b A5x c5x) := Lib.hid (qav.new HAP.out hr hk);have HI2' := Lib.hid (HI2.out.call hk);clear HI2;have HI2 := HI2';clear HI2';have HAP' := Lib.hid (HAP.out.call hk);clear HAP;have HAP := HAP';clear HAP';refine hK _ _ ⟨⟨fun _ => trivial, by rw [HBD.out]; exact HAP.out.bel⟩, ?_⟩;clear hK K hr hk
    (try simp only [Tm.val])
  all_goals
   obtain ⟨Z1, hZ1⟩ : ∃ Z1, Z1 = (((y4.setCell ⟨p6, 0, none⟩ (.int .i64 a.kind)).setCell ⟨p6, 1, none⟩ (.string a.name)).setCell ⟨p6, 2, none⟩ (.int .i64 a.sort)).setCell ⟨p6, 3, none⟩ (.slice A2 a.kids.length c2) := ⟨_, rfl⟩;obtain ⟨Z2, hZ2⟩ : ∃ Z2, Z2 = (((Z1.setCell ⟨p7, 0, none⟩ (.int .i64 b.kind)).setCell ⟨p7, 1, none⟩ (.string b.name)).setCell ⟨p7, 2, none⟩ (.int .i64 b.sort)).setCell ⟨p7, 3, none⟩ (.slice A5x b.kids.length c5x) := ⟨_, rfl⟩;obtain ⟨hb1, hq1, hb2, htp, htq⟩ := two_ofu HAP.out (p := p6) (q := p7) (by simp) (by simp) (by have := HAP.out.nd; simp at this; omega) HI2.out HI5.out hZ1 hZ2;have HB1 := Lib.hid hb1; have HB2 := Lib.hid hb2; have HTP := Lib.hid htp; have HTQ := Lib.hid htq;have HQ1 := Lib.hid hq1;obtain ⟨d0, d1, d2, d3, df⟩ := qae (show y4.heap[p6]? = some qj8 from (HAP.out.bx p6 (by simp)).2.2);clear hb1 hq1 hb2 htp htq
   (try simp only [Act.put, List.setIfInBounds_toArray, List.set_cons_succ, List.set_cons_zero, List.getElem_toArray, List.getElem_cons_succ, List.getElem_cons_zero])
   refine qac rfl rfl (fun K hK => ?_);go_wp2_with fail
   rw [← hZ1];refine ⟨⟨fun _ => trivial, by rw [HBD.out]; exact HB1.out⟩, ?_⟩;clear d0 d1 d2 d3 df hZ1 HAP HI2 HI5;obtain ⟨d0, d1, d2, d3, df⟩ := qae (show Z1.heap[p7]? = some qj8 from HQ1.out)
   (try simp only [Act.put, List.setIfInBounds_toArray, List.set_cons_succ, List.set_cons_zero, List.getElem_toArray, List.getElem_cons_succ, List.getElem_cons_zero])
   refine qac rfl rfl (fun K hK => ?_);go_wp2_with fail
   rw [← hZ2];refine ⟨⟨fun _ => trivial, by rw [HBD.out]; exact HB2.out⟩, ?_⟩;clear d0 d1 d2 d3 df hZ2
   (try simp only [Act.put, List.setIfInBounds_toArray, List.set_cons_succ, List.set_cons_zero, List.getElem_toArray, List.getElem_cons_succ, List.getElem_cons_zero])
   refine qao ?_;go_wp2_with fail
   go_meet
   case rel => exact ⟨p6, p7, A2, c2, A5x, c5x, rfl, rfl, HB2.out, HTP.out, HTQ.out⟩
 case rest =>
  obtain ⟨p8, p9, Aa, ca, Ab, cb, rfl, rfl, hbx, htp, htq⟩ := hcut;generalize wc = wx at *;have HX1 := Lib.hid ((qab.below ((Below.refl _ _).drew.trans hbx.out) HF3.out |>.add (.box p8 a Aa ca) htp.out).add (.box p9 b Ab cb) htq.out);clear hbx htp htq HF3 HBD IN2 IN5 HWD;obtain ⟨v0, hv0⟩ : ∃ v, v = t.valid := ⟨_, rfl⟩;obtain ⟨k60, k61, k62, k63, -⟩ := BoxT.cells (HX1.out.2.2.2.2.2.1);have C4 := qdc t T ct wx (by omega) (HX1.out.2.2.2.2.2.1).2;rw [← hv0] at C4;have HV0 := Lib.hid hv0;clear hv0;simp only [Tm.val] at C4;have C4 := Lib.hid C4;go_wp2_with fail
  refine C4.out.mono ?_;rintro e w5 ⟨rfl, hl⟩;clear C4 k60 k61 k62 k63;have HF7 := Lib.hid (qab.below hl.below HX1.out);clear HX1;clear hl;rcases eq_facts v0 0 with ⟨e0, f0, g0⟩ | ⟨e0, f0, g0⟩
  rotate_left
  ·clear HV0;go_wp2_with fail
   go_ret
   exact ⟨rfl, qab.bel HF7.out⟩
  have HV0 := Lib.hid (HV0.out.symm.trans e0);clear e0;obtain ⟨v1, hv1⟩ : ∃ v, v = u.valid := ⟨_, rfl⟩;obtain ⟨k100, k101, k102, k103, -⟩ := BoxT.cells (HF7.out.2.2.2.2.1);have C8 := qdc u U cu w5 (by omega) (HF7.out.2.2.2.2.1).2;rw [← hv1] at C8;have HV1 := Lib.hid hv1;clear hv1;simp only [Tm.val] at C8;have C8 := Lib.hid C8;go_wp2_with fail
  refine C8.out.mono ?_;rintro e w9 ⟨rfl, hl⟩;clear C8 k100 k101 k102 k103;have HF11 := Lib.hid (qab.below hl.below HF7.out);clear HF7;clear hl;rcases eq_facts v1 0 with ⟨e1, f1, g1⟩ | ⟨e1, f1, g1⟩
  rotate_left
  ·clear HV1;go_wp2_with fail
   go_ret
   exact ⟨rfl, qab.bel HF11.out⟩
  have HV1 := Lib.hid (HV1.out.symm.trans e1);clear e1;have hza : a.size ≤ 1000000 := by
   rw [HPA.out, HFP.out t (check_valid HV0.out)]; have := qd0 (s := fs) (m := 400) HF4.out (by omega) t; omega
  obtain ⟨v2, hv2⟩ : ∃ v, v = a.valid := ⟨_, rfl⟩;obtain ⟨k140, k141, k142, k143, -⟩ := BoxT.cells (HF11.out.2.1);have C12 := qdc a Aa ca w9 hza (HF11.out.2.1).2;rw [← hv2] at C12;have HV2 := Lib.hid hv2;clear hv2;simp only [Tm.val] at C12;have C12 := Lib.hid C12;go_wp2_with fail
  refine C12.out.mono ?_;rintro e w13 ⟨rfl, hl⟩;clear C12 k140 k141 k142 k143;have HF15 := Lib.hid (qab.below hl.below HF11.out);clear HF11;clear hl;rcases eq_facts v2 0 with ⟨e2, f2, g2⟩ | ⟨e2, f2, g2⟩
  rotate_left
  ·clear HV2;go_wp2_with fail
   go_ret
   exact ⟨rfl, qab.bel HF15.out⟩
  have HV2 := Lib.hid (HV2.out.symm.trans e2);clear e2;have hzb : b.size ≤ 1000000 := by
   rw [HPB.out, HFP.out u (check_valid HV1.out)]; have := qd0 (s := fs) (m := 400) HF4.out (by omega) u; omega
  obtain ⟨v3, hv3⟩ : ∃ v, v = b.valid := ⟨_, rfl⟩;obtain ⟨k180, k181, k182, k183, -⟩ := BoxT.cells (HF15.out.1);have C16 := qdc b Ab cb w13 hzb (HF15.out.1).2;rw [← hv3] at C16;have HV3 := Lib.hid hv3;clear hv3;simp only [Tm.val] at C16;have C16 := Lib.hid C16;go_wp2_with fail
  refine C16.out.mono ?_;rintro e w17 ⟨rfl, hl⟩;clear C16 k180 k181 k182 k183;have HF19 := Lib.hid (qab.below hl.below HF15.out);clear HF15;clear hl;rcases eq_facts v3 0 with ⟨e3, f3, g3⟩ | ⟨e3, f3, g3⟩
  rotate_left
  ·clear HV3;go_wp2_with fail
   go_ret
   exact ⟨rfl, qab.bel HF19.out⟩
  have HV3 := Lib.hid (HV3.out.symm.trans e3);clear e3;have HA1 : Hid (t.put fs = a) := Lib.hid (by rw [HPA.out, HFP.out t (check_valid HV0.out)]);have HB1 : Hid (u.put fs = b) := Lib.hid (by rw [HPB.out, HFP.out u (check_valid HV1.out)]);clear HPA HPB;obtain ⟨x, hx⟩ : ∃ x, x = apY a t := ⟨_, rfl⟩;have hxv : x.valid = 0 := by rw [hx]; exact qdf HV2.out HV0.out
  obtain ⟨r1, z1, -, zm1, zc1⟩ := qmm (t := t) (c := x) HV0.out hxv (fun n r hr => by rw [hx] at hr; exact qiq HV0.out HV2.out HFF.out HA1.out hr);obtain ⟨τ, q1, q2, -⟩ := qm4 HV0.out HV2.out HFF.out HA1.out;rw [← hx] at q2;have UA : Hid (∀ Z : World, RepT Z Z.heap.size a Aa ca → RepT Z Z.heap.size t T ct → Calls Tryz.prog 30 #[a.val Aa ca, t.val T ct] Z fun e w' => ∃ A' c', e = .returned (x.val A' c') ∧ RepT w' w'.heap.size x A' c' ∧ Below Z.heap.size Z w') := Lib.hid fun Z h1 h2 => by
   rw [hx]; exact qny a t Aa T ca ct Z HV2.out HV0.out h1 h2 (check_valid (qdf HV2.out HV0.out))
  have UD : Hid (∀ (Z : World) X cx, Below w.heap.size w Z → RepT Z Z.heap.size t T ct → RepT Z Z.heap.size x X cx → Calls Tryz.prog 17 #[t.val T ct, x.val X cx] Z fun e w' => e = .returned (.bool false) ∧ Below Z.heap.size Z w') := Lib.hid fun Z X cx hZ h1 h2 => disj_ok HI HV0.out hxv q1 q2 Z T X ct cx hZ h1 h2;have UI : Hid (∀ Z : World, RepT Z Z.heap.size a Aa ca → RepT Z Z.heap.size t T ct → Calls Tryz.prog 23 #[a.val Aa ca, t.val T ct] Z fun e w' => e = .returned (.bool true) ∧ Below Z.heap.size Z w') := Lib.hid fun Z h1 h2 => by
   have := qkc a t Aa T ca ct Z hza (by omega) h1 h2;rw [qi3 HV0.out HV2.out HFF.out HA1.out] at this;exact this
  obtain ⟨m1, hm1⟩ : ∃ m, m = (solvedU r1).1 := ⟨_, rfl⟩;rw [← hm1] at zc1;unfold UniOK at zc1;have U1 := Lib.hid zc1;clear z1 zm1 zc1 hm1 hx hxv q1 q2 r1;obtain ⟨k200, k201, k202, k203, -⟩ := BoxT.cells (HF19.out.2.1);obtain ⟨k210, k211, k212, k213, -⟩ := BoxT.cells (HF19.out.2.2.2.2.2.1);have C22 := UA.out w17 (HF19.out.2.1).2 (HF19.out.2.2.2.2.2.1).2;simp only [Tm.val] at C22;have C22 := Lib.hid C22;go_wp2_with fail
  refine C22.out.mono ?_;rintro e w23 ⟨A6, c6, rfl, hr, hb⟩;clear C22 k200 k201 k202 k203 k210 k211 k212 k213;have HF24 := Lib.hid ((qab.below hb HF19.out).add (.term x A6 c6) (hr));clear HF19;clear hr hb;clear UA;obtain ⟨V2, hV2⟩ : ∃ V, V = w23.alloc (qa5 x A6 c6) := ⟨_, rfl⟩;have HV2b := HF24.out.boxed HF24.out.1;rw [← hV2] at HV2b;simp only [qa5] at hV2;obtain ⟨b7, hb7⟩ : ∃ b, b = w23.heap.size := ⟨_, rfl⟩;go_upto_region 8 with fail
  rw [← hV2, ← hb7];rw [← hb7] at HV2b;have HX2 := Lib.hid HV2b;clear hV2 hb7 HV2b HF24;obtain ⟨k250, k251, k252, k253, -⟩ := BoxT.cells (HX2.out.2.2.2.2.2.2.2.1);obtain ⟨k260, k261, k262, k263, -⟩ := BoxT.cells (HX2.out.1);have C27 := U1.out V2 T A6 ct c6 (HX2.out.2.2.2.2.2.2.2.1).2 (HX2.out.1).2;simp only [Tm.val] at C27;have C27 := Lib.hid C27;go_wp2_with fail
  refine C27.out.mono ?_;rintro e w28 ⟨A7, c7, rfl, hr, hb⟩;clear C27 k250 k251 k252 k253 k260 k261 k262 k263;have HF29 := Lib.hid ((qab.below hb HX2.out).add (.binds m1 A7 c7) (hr));clear HX2;clear hr hb;clear U1;obtain ⟨k300, k301, k302, k303, -⟩ := BoxT.cells (HF29.out.2.2.2.2.1);obtain ⟨k310, k311, k312, k313, -⟩ := BoxT.cells (HF29.out.2.2.2.2.2.2.2.2.1);have C32 := UI.out w28 (HF29.out.2.2.2.2.1).2 (HF29.out.2.2.2.2.2.2.2.2.1).2;simp only [Tm.val] at C32;have C32 := Lib.hid C32;go_wp2_with fail
  refine C32.out.mono ?_;rintro e w33 ⟨rfl, hb⟩;clear C32 k300 k301 k302 k303 k310 k311 k312 k313;have HF34 := Lib.hid (qab.below hb HF29.out);clear HF29;clear hb;clear UI;obtain ⟨k370, k371, k372, k373, -⟩ := BoxT.cells (HF34.out.2.2.2.2.1);obtain ⟨k380, k381, k382, k383, -⟩ := BoxT.cells (HF34.out.2.2.2.1);have C35 := qdr a b Aa Ab ca cb w33 hza hzb (HF34.out.2.2.2.2.1).2 (HF34.out.2.2.2.1).2;by_cases hab : a = b
  rotate_left
  ·rw [Tm.same_false.2 hab] at C35;simp only [Tm.val] at C35;have C35 := Lib.hid C35;go_wp2_with fail
   refine C35.out.mono ?_;rintro e w36 ⟨rfl, hl⟩;have HE := Lib.hid (qab.below hl.below HF34.out);clear C35 k370 k371 k372 k373 k380 k381 k382 k383 hl;go_wp2_with fail
   go_ret
   exact ⟨rfl, qab.bel HE.out⟩
  rw [Tm.same_iff.2 hab] at C35;simp only [Tm.val] at C35;have C35 := Lib.hid C35;have HEQ : Hid (u.put fs = a) := Lib.hid (HB1.out.trans hab.symm);clear hab;go_wp2_with fail
  refine C35.out.mono ?_;rintro e w36 ⟨rfl, hl⟩;clear C35 k370 k371 k372 k373 k380 k381 k382 k383;have HF39 := Lib.hid (qab.below hl.below HF34.out);clear HF34;clear hl;have hc0 := fun n r (hr : runU n [(t, u)] [] = some r) => (qkw HV0.out HV2.out HFF.out HA1.out HEQ.out hr).1;obtain ⟨r2, -, ⟨n2, y2⟩, zm2, zc2⟩ := qmm (t := t) (c := u) HV0.out HV1.out hc0;obtain ⟨-, k1, k2⟩ := qkw HV0.out HV2.out HFF.out HA1.out HEQ.out y2;obtain ⟨m2, hm2⟩ : ∃ m, m = (solvedU r2).1 := ⟨_, rfl⟩;rw [← hm2] at zc2 zm2 k1 k2;unfold UniOK at zc2;obtain ⟨y, hy⟩ : ∃ y, y = t.rap m2 := ⟨_, rfl⟩;rw [← hy] at k1 k2;have U2 := Lib.hid zc2;have HM2 := Lib.hid zm2
  have UP : Hid (∀ (Z : World) M cm, RepB Z (fun b => b < Z.heap.size) m2 M cm → RepT Z Z.heap.size t T ct → Calls Tryz.prog 16 #[.slice M m2.length cm, t.val T ct] Z fun e w' => ∃ A' c', e = .returned (y.val A' c') ∧ RepT w' w'.heap.size y A' c' ∧ Below Z.heap.size Z w') := Lib.hid fun Z M cm h1 h2 => by
   rw [hy]; exact rapplyF m2 t M T cm ct Z HM2.out (by omega) h1 h2
  have UJ : Hid (∀ (Z : World) Y cy, RepT Z Z.heap.size a Aa ca → RepT Z Z.heap.size y Y cy → Calls Tryz.prog 23 #[a.val Aa ca, y.val Y cy] Z fun e w' => e = .returned (.bool true) ∧ Below Z.heap.size Z w') := Lib.hid fun Z Y cy h1 h2 => by
   have := qkc a y Aa Y ca cy Z hza (by omega) h1 h2;rw [k2] at this;exact this
  clear zc2 zm2 k1 k2 hm2 hy hc0 y2;obtain ⟨k400, k401, k402, k403, -⟩ := BoxT.cells (HF39.out.2.2.2.2.2.2.2.2.1);obtain ⟨k410, k411, k412, k413, -⟩ := BoxT.cells (HF39.out.2.2.2.2.2.2.2.1);have C42 := U2.out w36 T U ct cu (HF39.out.2.2.2.2.2.2.2.2.1).2 (HF39.out.2.2.2.2.2.2.2.1).2;simp only [Tm.val] at C42;have C42 := Lib.hid C42;go_wp2_with fail
  refine C42.out.mono ?_;rintro e w43 ⟨A8, c8, rfl, hr, hb⟩;clear C42 k400 k401 k402 k403 k410 k411 k412 k413;have HF44 := Lib.hid ((qab.below hb HF39.out).add (.binds m2 A8 c8) (hr));clear HF39;clear hr hb;clear U2;go_wp2_with fail
  refine qam (fun _ => True) (fun Y => Below w43.drew.heap.size w43.drew Y) [] (.held 0 (.held 1 (.held 2 (.held 3 (.held 4 (.held 5 (.op 6 (.op 7 (.held 8 (.held 9 (.held 10 (.held 11 (.op 12 (.held 13 (.held 14 (.held 15 .nil)))))))))))))))) mixed (by kernel_rfl) ?_;have HD46 := Lib.hid (qab.below (V' := w43.drew) (Below.refl _ _).drew HF44.out);have HD46b := Lib.hid HD46.out.rebase;generalize w43.drew = D45 at *;refine qag (v := .int .i64 0) rfl (by kernel_rfl) rfl (fun _ _ _ h => h) trivial (qab.bel HD46b.out) (fun Y _ _ => by (try simp only [Act.put]); go_simp) ?_;simp only [Act.put, List.setIfInBounds_toArray, List.set_cons_succ, List.set_cons_zero, List.getElem_toArray, List.getElem_cons_succ, List.getElem_cons_zero]
  refine qag (v := .bool true) rfl (by kernel_rfl) rfl (fun _ _ _ h => h) trivial (qab.bel HD46b.out) (fun Y _ _ => by (try simp only [Act.put]); go_simp) ?_;simp only [Act.put, List.setIfInBounds_toArray, List.set_cons_succ, List.set_cons_zero, List.getElem_toArray, List.getElem_cons_succ, List.getElem_cons_zero];refine qag (v := .bool true) rfl (by kernel_rfl) rfl (fun _ _ _ h => h) trivial (qab.bel HD46b.out) (fun Y _ _ => by (try simp only [Act.put]); go_simp) ?_;simp only [Act.put, List.setIfInBounds_toArray, List.set_cons_succ, List.set_cons_zero, List.getElem_toArray, List.getElem_cons_succ, List.getElem_cons_zero];refine qag (v := .agg #[.int .i64 a.kind, .string a.name, .int .i64 a.sort, .slice Aa a.kids.length ca]) rfl (by kernel_rfl) rfl (fun _ _ _ h => h) trivial (qab.bel HD46b.out) (fun Y _ hY => by
   obtain ⟨z0, z1, z2, z3, -⟩ := BoxT.cells ((show BoxT D45 _ _ _ _ from HD46.out.2.2.2.2.2.1).below hY)
   (try simp only [Act.put]); go_simp) ?_
  simp only [Act.put, List.setIfInBounds_toArray, List.set_cons_succ, List.set_cons_zero, List.getElem_toArray, List.getElem_cons_succ, List.getElem_cons_zero];refine qag (v := .slice A8 m2.length c8) rfl (by kernel_rfl) rfl (fun _ _ _ h => h) trivial (qab.bel HD46b.out) (fun Y _ _ => by (try simp only [Act.put]); go_simp) ?_;simp only [Act.put, List.setIfInBounds_toArray, List.set_cons_succ, List.set_cons_zero, List.getElem_toArray, List.getElem_cons_succ, List.getElem_cons_zero];refine qag (v := .agg #[.int .i64 t.kind, .string t.name, .int .i64 t.sort, .slice T t.kids.length ct]) rfl (by kernel_rfl) rfl (fun _ _ _ h => h) trivial (qab.bel HD46b.out) (fun Y _ hY => by
   obtain ⟨z0, z1, z2, z3, -⟩ := BoxT.cells ((show BoxT D45 _ _ _ _ from HD46.out.2.2.2.2.2.2.2.2.2.1).below hY)
   (try simp only [Act.put]); go_simp) ?_
  simp only [Act.put, List.setIfInBounds_toArray, List.set_cons_succ, List.set_cons_zero, List.getElem_toArray, List.getElem_cons_succ, List.getElem_cons_zero];refine qbh rfl (by kernel_rfl) (fun K hK => ?_);have C47 := UP.out D45 A8 c8 (HD46b.out.1) (HD46b.out.2.2.2.2.2.2.2.2.2.1).2;simp only [Tm.val] at C47;have C47 := Lib.hid C47;go_wp2_with fail
  refine C47.out.mono ?_; clear C47;rintro e w48 ⟨A49, c50, rfl, hr51, hb52⟩;have HF53 := Lib.hid ((qab.below hb52 HD46b.out).add (.term y A49 c50) hr51);refine hK _ _ ⟨⟨fun _ => trivial, qab.bel HF53.out⟩, ?_⟩;clear hK K;clear HD46b;clear hr51 hb52;refine qbh rfl (by kernel_rfl) (fun K hK => ?_);have C54 := UJ.out w48 A49 c50 (HF53.out.2.2.2.2.2.2.1).2 (HF53.out.1);rw [(rfl : true = true)] at C54;simp only [Tm.val] at C54;have C54 := Lib.hid C54;go_wp2_with fail
  refine C54.out.mono ?_; clear C54;rintro e w55 ⟨rfl, hb56⟩;have HF57 := Lib.hid (qab.below hb56 HF53.out);refine hK _ _ ⟨⟨fun _ => trivial, qab.bel HF57.out⟩, ?_⟩;clear hK K;clear HF53;clear hb56;refine qag (v := .bool true) rfl (by kernel_rfl) rfl (fun _ _ _ h => h) trivial (qab.bel HF57.out) (fun Y _ _ => by (try simp only [Act.put]); go_simp) ?_;simp only [Act.put, List.setIfInBounds_toArray, List.set_cons_succ, List.set_cons_zero, List.getElem_toArray, List.getElem_cons_succ, List.getElem_cons_zero];refine qag (v := .bool true) rfl (by kernel_rfl) rfl (fun _ _ _ h => h) trivial (qab.bel HF57.out) (fun Y _ _ => by (try simp only [Act.put]); go_simp) ?_;simp only [Act.put, List.setIfInBounds_toArray, List.set_cons_succ, List.set_cons_zero, List.getElem_toArray, List.getElem_cons_succ, List.getElem_cons_zero]
  refine qag (v := .agg #[.int .i64 t.kind, .string t.name, .int .i64 t.sort, .slice T t.kids.length ct]) rfl (by kernel_rfl) rfl (fun _ _ _ h => h) trivial (qab.bel HF57.out) (fun Y _ hY => by
   obtain ⟨z0, z1, z2, z3, -⟩ := BoxT.cells ((show BoxT D45 _ _ _ _ from HD46.out.2.2.2.2.2.2.2.2.2.1).below hY)
   (try simp only [Act.put]); go_simp) ?_
  simp only [Act.put, List.setIfInBounds_toArray, List.set_cons_succ, List.set_cons_zero, List.getElem_toArray, List.getElem_cons_succ, List.getElem_cons_zero];refine qag (v := .agg #[.int .i64 x.kind, .string x.name, .int .i64 x.sort, .slice A6 x.kids.length c6]) rfl (by kernel_rfl) rfl (fun _ _ _ h => h) trivial (qab.bel HF57.out) (fun Y _ hY => by
   obtain ⟨z0, z1, z2, z3, -⟩ := BoxT.cells ((show BoxT D45 _ _ _ _ from HD46.out.2.2.1).below hY)
   (try simp only [Act.put]); go_simp) ?_
  simp only [Act.put, List.setIfInBounds_toArray, List.set_cons_succ, List.set_cons_zero, List.getElem_toArray, List.getElem_cons_succ, List.getElem_cons_zero];refine qbh rfl (by kernel_rfl) (fun K hK => ?_);have C58 := UD.out w55 A6 c6 ((qab.bel HD46.out).trans ((qab.bel HF57.out).mono (qab.bel HD46.out).size)) (HF57.out.2.2.2.2.2.2.2.2.2.2.1).2 (HF57.out.2.2.2.1).2;rw [(rfl : false = false)] at C58;simp only [Tm.val] at C58;have C58 := Lib.hid C58;go_wp2_with fail
  refine C58.out.mono ?_; clear C58;rintro e w59 ⟨rfl, hb60⟩;have HF61 := Lib.hid (qab.below hb60 HF57.out);refine hK _ _ ⟨⟨fun _ => trivial, qab.bel HF61.out⟩, ?_⟩;clear hK K;clear HF57;clear hb60;refine qag (v := .bool true) rfl (by kernel_rfl) rfl (fun _ _ _ h => h) trivial (qab.bel HF61.out) (fun Y _ _ => by (try simp only [Act.put]); go_simp) ?_;simp only [Act.put, List.setIfInBounds_toArray, List.set_cons_succ, List.set_cons_zero, List.getElem_toArray, List.getElem_cons_succ, List.getElem_cons_zero];refine qag (v := .bool true) rfl (by kernel_rfl) rfl (fun _ _ _ h => h) trivial (qab.bel HF61.out) (fun Y _ _ => by (try simp only [Act.put]); go_simp) ?_;simp only [Act.put, List.setIfInBounds_toArray, List.set_cons_succ, List.set_cons_zero, List.getElem_toArray, List.getElem_cons_succ, List.getElem_cons_zero]
  refine qag (v := .bool true) rfl (by kernel_rfl) rfl (fun _ _ _ h => h) trivial (qab.bel HF61.out) (fun Y _ _ => by (try simp only [Act.put]); go_simp) ?_;simp only [Act.put, List.setIfInBounds_toArray, List.set_cons_succ, List.set_cons_zero, List.getElem_toArray, List.getElem_cons_succ, List.getElem_cons_zero];refine qao ?_;have HF62 := Lib.hid ((show qab D45 [.binds m2 A8 c8, .binds m1 A7 c7, .box b7 x A6 c6, .term x A6 c6, .box p9 b Ab cb, .box p8 a Aa ca, .binds fs A5 c5, .binds l L cl, .box (b0 + 1) u U cu, .box b0 t T ct] w59 from ⟨HF61.out.2.1, HF61.out.2.2.1, HF61.out.2.2.2.1, HF61.out.2.2.2.2.1, HF61.out.2.2.2.2.2.1, HF61.out.2.2.2.2.2.2.1, HF61.out.2.2.2.2.2.2.2.1, HF61.out.2.2.2.2.2.2.2.2.1, HF61.out.2.2.2.2.2.2.2.2.2.1, HF61.out.2.2.2.2.2.2.2.2.2.2.1, qab.bel HF61.out⟩).unbase (qab.bel HD46.out));clear HF61 HD46;go_wp2_with fail
  go_ret
  exact ⟨rfl, qab.bel HF62.out⟩
theorem qnl (t u : Tm) (l : List Bd) (T U L : Option Addr) (ct cu cl : Nat) (w : World) (HI : qbj 400 w) (rt : RepT w w.heap.size t T ct) (ru : RepT w w.heap.size u U cu) (rl : RepB w (fun b => b < w.heap.size) l L cl) (_room : l.length * 112 ≤ 140737488355328) :
  Calls Tryz.prog 8 #[t.val T ct, u.val U cu, .slice L l.length cl] w fun e w' => e = .returned (.bool true) ∧ Below w.heap.size w w' := uinst_law t u T U ct cu l L cl w HI rt ru rl
end Go.Proofs.YtpjmdilpldaapaaGreatDoor
