/- Uvrt (joined by shake.py). -/
import Derived.Test.YtpjmdilpldaapaaGreatDoorV20
set_option maxRecDepth 100000
namespace Go.Proofs.YtpjmdilpldaapaaGreatDoor
open Go.RowKit Go.Sort
theorem qkl (a b : List UInt8) : (a = b ∧ (a == b) = true ∧ (a != b) = false) ∨ (a ≠ b ∧ (a == b) = false ∧ (a != b) = true) := by
 by_cases h : a = b
 ·left; subst h; exact ⟨rfl, by simp, by simp⟩
 ·right; exact ⟨h, by rw [beq_eq_false_iff_ne]; exact h, by simp [h]⟩
theorem qmb {a b : ByteArray} (h : a.toList = b.toList) : a = b := by
 rw [ByteArray.toList_eq, ByteArray.toList_eq] at h; exact ByteArray.ext (Array.toList_inj.1 h)
attribute [local irreducible] qaz
set_option linter.unusedSimpArgs false in
set_option linter.unusedVariables false in
set_option maxHeartbeats 8000000 in
theorem qhw (tb kb B : Nat) (hB : B ≤ tb ∧ B ≤ kb) (hne : tb ≠ kb)
  (VAR : ∀ (a b : Tm) (A A' : Option Addr) (ca cb : Nat) (m : List Bd) (n1 n2 c : Nat) (w : World), a.kind = 1 → b.kind = 1 → a.valid = 0 → b.valid = 0 → n1 ≤ c → n2 ≤ c → c + 1 ≤ 1000000 → MapI w tb n1 m → MapI w kb n2 (swB m) → RepP w (fun k => k < B) a A ca → RepP w (fun k => k < B) b A' cb →
   Calls Tryz.prog 59 #[a.val A ca, b.val A' cb, .map (some tb), .map (some kb)] w (VrtD tb kb B (c + 1) (a.vrt b m) w)) (n : Nat) :
  ∀ (a b : Tm) (A A' : Option Addr) (ca cb : Nat) (m : List Bd) (n1 n2 c : Nat) (w : World), a.size ≤ n → a.valid = 0 → b.valid = 0 → n1 ≤ c → n2 ≤ c → c + a.size ≤ 1000000 → MapI w tb n1 m → MapI w kb n2 (swB m) → RepP w (fun k => k < B) a A ca → RepP w (fun k => k < B) b A' cb →
   Calls Tryz.prog 59 #[a.val A ca, b.val A' cb, .map (some tb), .map (some kb)] w (VrtD tb kb B (c + a.size) (a.vrt b m) w) := by
 have mixed : Tryz.prog.follows .mixedOrders = true := by kernel_rfl
 induction n with
 | zero => intro a _ _ _ _ _ _ _ _ _ _ h; have := a.size_pos; omega
 | succ n ih =>
  intro a b A A' ca cb m n1 n2 c w hn hva hvb hc1 hc2 hcc hm1 hm2 hra hrb;have hs1 := a.size_pos;by_cases hk2 : a.kind = 1 ∧ b.kind = 1
  ·exact (VAR a b A A' ca cb m n1 n2 c w hk2.1 hk2.2 hva hvb hc1 hc2 (by omega) hm1 hm2 hra hrb).mono fun e w' ⟨h1, ⟨x, y, g1, g2, g3⟩, h3⟩ => ⟨h1, ⟨x, y, by omega, by omega, g3⟩, h3⟩
  have htw := hm1.lt;have hkw := hm2.lt;have sa := qak hva;have sb := qak hvb;have hs3 := qhy a;obtain ⟨V, hV⟩ : ∃ V, V = (w.alloc (boxT a A ca)).alloc (boxT b A' cb) := ⟨_, rfl⟩;have h2 : Two w a b A A' ca cb V := by rw [hV]; exact Two.new w a b A A' ca cb
  have hM : VAt tb kb B n1 n2 m w (boxT a A ca) (boxT b A' cb) V := ⟨hm1.keep (h2.lay.below.block _ htw), hm2.keep (h2.lay.below.block _ hkw), h2.one, h2.two, h2.lay.below.mono (by omega), fun k hk _ _ => h2.lay.below.block k hk⟩;have IV1 := qcc a A ca;obtain ⟨qa, hqa⟩ : ∃ q, q = (a.kind == 1) := ⟨_, rfl⟩;rw [← hqa] at IV1;have HQA := Lib.hid hqa;clear hqa;have IV2 := qcc b A' cb;obtain ⟨r, hr⟩ : ∃ r, r = a.vrt b m := ⟨_, rfl⟩;rw [← hr];rw [qlt, if_neg hk2] at hr;have HR := Lib.hid hr; clear hr;obtain ⟨a0, a1, a2, a3, -⟩ := qah h2.one;obtain ⟨b0, b1, b2, b3, -⟩ := qah h2.two;have HM := Lib.hid hM;have HRA := Lib.hid hra;have HRB := Lib.hid hrb;have HVA := Lib.hid hva;have HVB := Lib.hid hvb;have HK2 := Lib.hid hk2;have IH := Lib.hid ih;have hlt0 := hM.lt;simp only [boxT] at hV;have HV := Lib.hid hV;clear hV h2 hM hm1 hm2 hra hrb hva hvb ih VAR hk2
  simp only [Tm.val] at IV1 IV2 ⊢;have IV1 := Lib.hid IV1;have IV2 := Lib.hid IV2;go_enter Tryz.func59, Tryz.ntmps59
  go_wp2_with fail
  rw [← HV.out];go_wp2_with fail
  refine (IV1.out V).mono ?_; clear IV1 a0 a1 a2 a3 b0 b1 b2 b3;rintro e w1 ⟨rfl, hl1⟩;have HM1 := Lib.hid (HM.out.go (by omega) hl1.below); clear HM hl1
  cases qa with
  | true =>
   have ka0 : a.kind = 1 := by have h := HQA.out.symm; rw [beq_iff_eq] at h; exact h
   have hb1 : b.kind ≠ 1 := fun h => HK2.out ⟨ka0, h⟩;have hb2 : (b.kind == 1) = false := by rw [beq_eq_false_iff_ne]; exact hb1
   have IV3 := IV2.out w1;rw [hb2] at IV3;have IV3 := Lib.hid IV3;clear ka0 hb1 hb2 HK2 HQA;obtain ⟨a0, a1, a2, a3, -⟩ := qar a (HM1.out.b1);obtain ⟨b0, b1, b2, b3, -⟩ := qar b (HM1.out.b2);go_wp2_with fail
   refine IV3.out.mono ?_; clear IV3 a0 a1 a2 a3 b0 b1 b2 b3;rintro e w2 ⟨rfl, hl2⟩;have HM2 := Lib.hid (HM1.out.go (by omega) hl2.below); clear HM1 hl2 IV2;obtain ⟨a0, a1, a2, a3, -⟩ := qar a (HM2.out.b1);obtain ⟨b0, b1, b2, b3, -⟩ := qar b (HM2.out.b2);rcases eq_facts a.kind b.kind with ⟨x0, x1, x2⟩ | ⟨x0, x1, x2⟩
   rotate_left
   ·have hrr : r = (m, false) := HR.out.trans (if_pos (.inl x0));clear HR IH;subst hrr;go_wp2_with fail
    go_ret
    exact HM2.out.done (by omega) (by omega) false
   rcases qkl a.name.toList b.name.toList with ⟨y0, y1, y2⟩ | ⟨y0, y1, y2⟩
   rotate_left
   ·have hrr : r = (m, false) := HR.out.trans (if_pos (.inr (.inl (fun h => y0 (by rw [h])))));clear HR IH;subst hrr;go_wp2_with fail
    go_ret
    exact HM2.out.done (by omega) (by omega) false
   rcases eq_facts a.sort b.sort with ⟨z0, z1, z2⟩ | ⟨z0, z1, z2⟩
   rotate_left
   ·have hrr : r = (m, false) := HR.out.trans (if_pos (.inr (.inr (.inl z0))));clear HR IH;subst hrr;go_wp2_with fail
    go_ret
    exact HM2.out.done (by omega) (by omega) false
   rcases eq_facts (a.kids.length : Int) (b.kids.length : Int) with ⟨u0, u1, u2⟩ | ⟨u0, u1, u2⟩
   rotate_left
   ·have hrr : r = (m, false) := HR.out.trans (if_pos (.inr (.inr (.inr (fun h => u0 (by rw [h]))))));clear HR IH;subst hrr;go_wp2_with fail
    go_ret
    exact HM2.out.done (by omega) (by omega) false
   have hkl : a.kids.length = b.kids.length := by omega
   have HKL := Lib.hid hkl;have HR2 := Lib.hid (HR.out.trans (if_neg (by
    rintro (h | h | h | h)
    ·exact h x0
    ·exact h (qmb y0)
    ·exact h z0
    ·exact h hkl)))
   have hka := qbx a;go_wp2_with fail
   clear HR a0 a1 a2 a3 b0 b1 b2 b3 x0 x1 x2 y0 y1 y2 z0 z1 z2 u0 u1 u2 hkl;go_loopw [98] (fun v wr => ∃ (i : Nat) (mi : List Bd) (m1 m2 : Nat), v = .int .i64 i ∧ i ≤ a.kids.length ∧ m1 ≤ c + Tm.sizes (a.kids.take i) ∧ m2 ≤ c + Tm.sizes (a.kids.take i) ∧ Hid (Tm.vrts a.kids b.kids m = Tm.vrts (a.kids.drop i) (b.kids.drop i) mi) ∧ Hid (VAt tb kb B m1 m2 mi w (boxT a A ca) (boxT b A' cb) wr)) (fun v _ => a.kids.length - (intOf v).toNat)
   case atStart => exact ⟨0, m, n1, n2, rfl, Nat.zero_le _, by simp [Tm.sizes]; omega, by simp [Tm.sizes]; omega, rfl, HM2.out⟩
   case round =>
    clear HM2;obtain ⟨i, mi, m1, m2, rfl, hi, hni, hnj, HE, HM⟩ := hrel;by_cases hlt : i < a.kids.length
    ·have hiu : i < b.kids.length := by have := HKL.out; omega
     rcases (qgl HRA.out).2.2.2 with h | ⟨pb, poff, hP, hpB, hpl⟩
     ·rw [h] at hlt; simp at hlt
     rcases (qgl HRB.out).2.2.2 with h | ⟨qb, qoff, hT, htB, htl⟩
     ·rw [h] at hiu; simp at hiu
     subst hP hT;have HMD : Hid (VAt tb kb B m1 m2 mi w (boxT a (some ⟨pb, poff, none⟩) ca) (boxT b (some ⟨qb, qoff, none⟩) cb) wr.drew) := HM.out.go (by omega) (Below.refl _ _).drew;have hlD : w.heap.size + 2 ≤ wr.drew.heap.size := HMD.out.lt;have i1 : (0 : Int) ≤ (i : Int) := Int.natCast_nonneg _;have i2 : (i : Int) < (a.kids.length : Int) := by omega
     have i3 : (i : Int) < (b.kids.length : Int) := by omega
     clear HM;go_wp2_with fail
     refine qai (fun _ => True) (fun Y => ∀ p : Addr, p.block < wr.drew.heap.size → p.block ≠ tb → p.block ≠ kb → Y.cell? p = wr.drew.cell? p) [] (.held 0 (.held 1 (.held 2 (.held 3 (.held 4 (.held 5 (.held 6 (.held 7 (.held 8 (.held 9 (.held 10 (.held 11 (.op 12 (.held 13 .nil)))))))))))))) mixed (by kernel_rfl) ?_;generalize wr.drew = D at *;have hpr : qao D (fun b => b < B) a.kids pb poff := qao.mono (fun _ h => h) (fun q (hq : q.block < B) => HMD.out.bel.cell hq) _ _ _ hpB hpl;have htr : qao D (fun b => b < B) b.kids qb qoff := qao.mono (fun _ h => h) (fun q (hq : q.block < B) => HMD.out.bel.cell hq) _ _ _ htB htl;obtain ⟨Ai, ci, k0, k1, k2, k3, hri⟩ := hpr.get i hlt;obtain ⟨Aj, cj, l0, l1, l2, l3, hrj⟩ := htr.get i hiu;have hst := qcq a.kids i hlt;have hvy := qas HVA.out (List.getElem_mem hlt);have hvz := qas HVB.out (List.getElem_mem hiu)
     have hre := HE.out;rw [List.drop_eq_getElem_cons hlt, List.drop_eq_getElem_cons hiu, Tm.vrts] at hre;have hsk : Tm.sizes (a.kids.take (i + 1)) = Tm.sizes (a.kids.take i) + a.kids[i].size := by
      rw [List.take_succ_eq_append_getElem hlt, qbt, Tm.sizes, Tm.sizes]; rfl
     obtain ⟨y, hy⟩ : ∃ y, y = a.kids[i] := ⟨_, rfl⟩;obtain ⟨z, hz⟩ : ∃ z, z = b.kids[i] := ⟨_, rfl⟩;rw [← hy] at k0 k1 k2 k3 hri hst hvy hre hsk;rw [← hz] at l0 l1 l2 l3 hrj hvz hre;clear hy hz hpr htr hpl htl HE;have CL := IH.out y z Ai Aj ci cj mi m1 m2 (c + Tm.sizes (a.kids.take i)) D (by omega) hvy hvz hni hnj (by omega) HMD.out.m1 HMD.out.m2 hri hrj;obtain ⟨q, hq⟩ : ∃ q, q = y.vrt z mi := ⟨_, rfl⟩;rw [← hq] at CL hre;obtain ⟨q1, q2⟩ := q;simp only [Tm.val] at CL;have CL := Lib.hid CL;have HRE := Lib.hid hre;clear hq hre hvy hvz hri hrj;obtain ⟨-, -, -, a3, -⟩ := qar a (HMD.out.b1);obtain ⟨-, -, -, b3, -⟩ := qar b (HMD.out.b2);have nb : ∀ k, k < B → k < D.heap.size ∧ k ≠ tb ∧ k ≠ kb := fun k hk => ⟨by omega, by omega, by omega⟩;have nw : ∀ k, w.heap.size ≤ k → k < w.heap.size + 2 → k < D.heap.size ∧ k ≠ tb ∧ k ≠ kb := fun k hk hk2 => ⟨by omega, by omega, by omega⟩
     have sD : ∀ p : Addr, p.block < D.heap.size → p.block ≠ tb → p.block ≠ kb → D.cell? p = D.cell? p := fun _ _ _ _ => rfl;refine qaa (v := .pointer (some ⟨w.heap.size, 3, none⟩)) rfl rfl rfl (fun _ _ _ h => h) trivial sD (fun Y _ hY => by
      (try simp only [Act.put]); go_simp) ?_
     refine qaa (v := .slice (some ⟨pb, poff, none⟩) a.kids.length ca) rfl rfl rfl (fun _ _ _ h => h) trivial sD (fun Y _ hY => by
      have z3 := (hY ⟨w.heap.size, 3, none⟩ (nw w.heap.size (Nat.le_refl _) (by omega)).1 (nw w.heap.size (Nat.le_refl _) (by omega)).2.1 (nw w.heap.size (Nat.le_refl _) (by omega)).2.2).trans a3;clear hY
      (try simp only [Act.put]); go_simp) ?_
     refine qaa (v := .int .i64 i) rfl rfl rfl (fun _ _ _ h => h) trivial sD (fun Y _ hY => by
      (try simp only [Act.put]); go_simp) ?_
     refine qaa (v := .pointer (some ⟨pb, poff + i * 4, none⟩)) rfl rfl rfl (fun _ _ _ h => h) trivial sD (fun Y _ hY => by
      (try simp only [Act.put]); go_simp) ?_
     simp only [Act.put, List.setIfInBounds_toArray, List.set_cons_succ, List.set_cons_zero, List.getElem_toArray, List.getElem_cons_succ, List.getElem_cons_zero];refine qaa (v := .agg #[.int .i64 y.kind, .string y.name, .int .i64 y.sort, .slice Ai y.kids.length ci]) rfl rfl rfl (fun _ _ _ h => h) trivial sD (fun Y _ hY => by
      have z0 := (hY ⟨pb, poff + i * 4, none⟩ (nb pb hpB).1 (nb pb hpB).2.1 (nb pb hpB).2.2).trans k0;have z1 := (hY ⟨pb, poff + i * 4 + 1, none⟩ (nb pb hpB).1 (nb pb hpB).2.1 (nb pb hpB).2.2).trans k1;have z2 := (hY ⟨pb, poff + i * 4 + 2, none⟩ (nb pb hpB).1 (nb pb hpB).2.1 (nb pb hpB).2.2).trans k2;have z3 := (hY ⟨pb, poff + i * 4 + 3, none⟩ (nb pb hpB).1 (nb pb hpB).2.1 (nb pb hpB).2.2).trans k3;clear hY
      (try simp only [Act.put]); go_simp) ?_
     refine qaa (v := .pointer (some ⟨w.heap.size + 1, 3, none⟩)) rfl rfl rfl (fun _ _ _ h => h) trivial sD (fun Y _ hY => by
      (try simp only [Act.put]); go_simp) ?_
     refine qaa (v := .slice (some ⟨qb, qoff, none⟩) b.kids.length cb) rfl rfl rfl (fun _ _ _ h => h) trivial sD (fun Y _ hY => by
      have z3 := (hY ⟨w.heap.size + 1, 3, none⟩ (nw (w.heap.size + 1) (by omega) (by omega)).1 (nw (w.heap.size + 1) (by omega) (by omega)).2.1 (nw (w.heap.size + 1) (by omega) (by omega)).2.2).trans b3;clear hY
      (try simp only [Act.put]); go_simp) ?_
     refine qaa (v := .int .i64 i) rfl rfl rfl (fun _ _ _ h => h) trivial sD (fun Y _ hY => by
      (try simp only [Act.put]); go_simp) ?_
     simp only [Act.put, List.setIfInBounds_toArray, List.set_cons_succ, List.set_cons_zero, List.getElem_toArray, List.getElem_cons_succ, List.getElem_cons_zero];refine qaa (v := .pointer (some ⟨qb, qoff + i * 4, none⟩)) rfl rfl rfl (fun _ _ _ h => h) trivial sD (fun Y _ hY => by
      (try simp only [Act.put]); go_simp) ?_
     refine qaa (v := .agg #[.int .i64 z.kind, .string z.name, .int .i64 z.sort, .slice Aj z.kids.length cj]) rfl rfl rfl (fun _ _ _ h => h) trivial sD (fun Y _ hY => by
      have z0 := (hY ⟨qb, qoff + i * 4, none⟩ (nb qb htB).1 (nb qb htB).2.1 (nb qb htB).2.2).trans l0;have z1 := (hY ⟨qb, qoff + i * 4 + 1, none⟩ (nb qb htB).1 (nb qb htB).2.1 (nb qb htB).2.2).trans l1;have z2 := (hY ⟨qb, qoff + i * 4 + 2, none⟩ (nb qb htB).1 (nb qb htB).2.1 (nb qb htB).2.2).trans l2;have z3 := (hY ⟨qb, qoff + i * 4 + 3, none⟩ (nb qb htB).1 (nb qb htB).2.1 (nb qb htB).2.2).trans l3;clear hY
      (try simp only [Act.put]); go_simp) ?_
     refine qaa (v := .map (some tb)) rfl rfl rfl (fun _ _ _ h => h) trivial sD (fun Y _ hY => by
      (try simp only [Act.put]); go_simp) ?_
     refine qaa (v := .map (some kb)) rfl rfl rfl (fun _ _ _ h => h) trivial sD (fun Y _ hY => by
      (try simp only [Act.put]); go_simp) ?_
     simp only [Act.put, List.setIfInBounds_toArray, List.set_cons_succ, List.set_cons_zero, List.getElem_toArray, List.getElem_cons_succ, List.getElem_cons_zero];refine qac rfl rfl (fun K hK => ?_);go_wp2_with fail
     refine CL.out.mono ?_; clear CL k0 k1 k2 k3 l0 l1 l2 l3 a3 b3;rintro e w5 hd5;obtain ⟨c1, c2, hc1', hc2', HM5⟩ := HMD.out.call hB htw hkw hd5;obtain ⟨rfl, -, hbel5, hold5⟩ := hd5;have s5 : ∀ p : Addr, p.block < D.heap.size → p.block ≠ tb → p.block ≠ kb → w5.cell? p = D.cell? p := fun p h1 h2 h3 => World.cell?_of_block (hold5 _ h1 h2 h3);refine hK _ _ ⟨⟨fun _ => trivial, s5⟩, ?_⟩;clear hK K hbel5 hold5;have HM5 := Lib.hid HM5;clear HMD;refine qaa (v := .bool (!q2)) rfl rfl rfl (fun _ _ _ h => h) trivial s5 (fun Y _ hY => by
      (try simp only [Act.put]); go_simp) ?_
     simp only [Act.put, List.setIfInBounds_toArray, List.set_cons_succ, List.set_cons_zero, List.getElem_toArray, List.getElem_cons_succ, List.getElem_cons_zero];refine qaj ?_;clear sD s5 nb nw
     cases q2 with
     | false =>
      have hrr : r = (q1, false) := HR2.out.trans HRE.out;clear IH HR2 HRE;subst hrr;go_wp2_with fail
      go_ret
      exact HM5.out.done (by omega) (by omega) false
     | true =>
      have HE5 : Hid (Tm.vrts a.kids b.kids m = Tm.vrts (a.kids.drop (i + 1)) (b.kids.drop (i + 1)) q1) := HRE.out;clear HRE;go_wp2_with fail
      go_roundw
      case rel => exact ⟨i + 1, q1, c1, c2, by go_num, by omega, by omega, by omega, HE5.out, HM5.out⟩
      case measure => simp [intOf]; omega
    ·obtain rfl : i = a.kids.length := by omega
     have he := HE.out;have he2 : Tm.vrts [] [] mi = (mi, true) := by rw [Tm.vrts]; simp
     rw [List.drop_length, show b.kids.drop a.kids.length = [] by rw [HKL.out, List.drop_length], he2] at he;have hrr : r = (mi, true) := HR2.out.trans he;rw [List.take_length] at hni hnj;clear IH HR2 HE;subst hrr;have hlen : ¬ ((a.kids.length : Int) < (b.kids.length : Int)) := by have := HKL.out; omega
     go_wp2_with fail
     go_ret
     exact HM.out.done (by omega) (by omega) true
  | false =>
   clear IV2 HK2 HQA;obtain ⟨a0, a1, a2, a3, -⟩ := qar a (HM1.out.b1);obtain ⟨b0, b1, b2, b3, -⟩ := qar b (HM1.out.b2);rcases eq_facts a.kind b.kind with ⟨x0, x1, x2⟩ | ⟨x0, x1, x2⟩
   rotate_left
   ·have hrr : r = (m, false) := HR.out.trans (if_pos (.inl x0));clear HR IH;subst hrr;go_wp2_with fail
    go_ret
    exact HM1.out.done (by omega) (by omega) false
   rcases qkl a.name.toList b.name.toList with ⟨y0, y1, y2⟩ | ⟨y0, y1, y2⟩
   rotate_left
   ·have hrr : r = (m, false) := HR.out.trans (if_pos (.inr (.inl (fun h => y0 (by rw [h])))));clear HR IH;subst hrr;go_wp2_with fail
    go_ret
    exact HM1.out.done (by omega) (by omega) false
   rcases eq_facts a.sort b.sort with ⟨z0, z1, z2⟩ | ⟨z0, z1, z2⟩
   rotate_left
   ·have hrr : r = (m, false) := HR.out.trans (if_pos (.inr (.inr (.inl z0))));clear HR IH;subst hrr;go_wp2_with fail
    go_ret
    exact HM1.out.done (by omega) (by omega) false
   rcases eq_facts (a.kids.length : Int) (b.kids.length : Int) with ⟨u0, u1, u2⟩ | ⟨u0, u1, u2⟩
   rotate_left
   ·have hrr : r = (m, false) := HR.out.trans (if_pos (.inr (.inr (.inr (fun h => u0 (by rw [h]))))));clear HR IH;subst hrr;go_wp2_with fail
    go_ret
    exact HM1.out.done (by omega) (by omega) false
   have hkl : a.kids.length = b.kids.length := by omega
   have HKL := Lib.hid hkl;have HR2 := Lib.hid (HR.out.trans (if_neg (by
    rintro (h | h | h | h)
    ·exact h x0
    ·exact h (qmb y0)
    ·exact h z0
    ·exact h hkl)))
   have hka := qbx a;go_wp2_with fail
   clear HR a0 a1 a2 a3 b0 b1 b2 b3 x0 x1 x2 y0 y1 y2 z0 z1 z2 u0 u1 u2 hkl;go_loopw [98] (fun v wr => ∃ (i : Nat) (mi : List Bd) (m1 m2 : Nat), v = .int .i64 i ∧ i ≤ a.kids.length ∧ m1 ≤ c + Tm.sizes (a.kids.take i) ∧ m2 ≤ c + Tm.sizes (a.kids.take i) ∧ Hid (Tm.vrts a.kids b.kids m = Tm.vrts (a.kids.drop i) (b.kids.drop i) mi) ∧ Hid (VAt tb kb B m1 m2 mi w (boxT a A ca) (boxT b A' cb) wr)) (fun v _ => a.kids.length - (intOf v).toNat)
   case atStart => exact ⟨0, m, n1, n2, rfl, Nat.zero_le _, by simp [Tm.sizes]; omega, by simp [Tm.sizes]; omega, rfl, HM1.out⟩
   case round =>
    clear HM1;obtain ⟨i, mi, m1, m2, rfl, hi, hni, hnj, HE, HM⟩ := hrel;by_cases hlt : i < a.kids.length
    ·have hiu : i < b.kids.length := by have := HKL.out; omega
     rcases (qgl HRA.out).2.2.2 with h | ⟨pb, poff, hP, hpB, hpl⟩
     ·rw [h] at hlt; simp at hlt
     rcases (qgl HRB.out).2.2.2 with h | ⟨qb, qoff, hT, htB, htl⟩
     ·rw [h] at hiu; simp at hiu
     subst hP hT;have HMD : Hid (VAt tb kb B m1 m2 mi w (boxT a (some ⟨pb, poff, none⟩) ca) (boxT b (some ⟨qb, qoff, none⟩) cb) wr.drew) := HM.out.go (by omega) (Below.refl _ _).drew;have hlD : w.heap.size + 2 ≤ wr.drew.heap.size := HMD.out.lt;have i1 : (0 : Int) ≤ (i : Int) := Int.natCast_nonneg _;have i2 : (i : Int) < (a.kids.length : Int) := by omega
     have i3 : (i : Int) < (b.kids.length : Int) := by omega
     clear HM;go_wp2_with fail
     refine qai (fun _ => True) (fun Y => ∀ p : Addr, p.block < wr.drew.heap.size → p.block ≠ tb → p.block ≠ kb → Y.cell? p = wr.drew.cell? p) [] (.held 0 (.held 1 (.held 2 (.held 3 (.held 4 (.held 5 (.held 6 (.held 7 (.held 8 (.held 9 (.held 10 (.held 11 (.op 12 (.held 13 .nil)))))))))))))) mixed (by kernel_rfl) ?_;generalize wr.drew = D at *;have hpr : qao D (fun b => b < B) a.kids pb poff := qao.mono (fun _ h => h) (fun q (hq : q.block < B) => HMD.out.bel.cell hq) _ _ _ hpB hpl;have htr : qao D (fun b => b < B) b.kids qb qoff := qao.mono (fun _ h => h) (fun q (hq : q.block < B) => HMD.out.bel.cell hq) _ _ _ htB htl;obtain ⟨Ai, ci, k0, k1, k2, k3, hri⟩ := hpr.get i hlt;obtain ⟨Aj, cj, l0, l1, l2, l3, hrj⟩ := htr.get i hiu;have hst := qcq a.kids i hlt;have hvy := qas HVA.out (List.getElem_mem hlt);have hvz := qas HVB.out (List.getElem_mem hiu)
     have hre := HE.out;rw [List.drop_eq_getElem_cons hlt, List.drop_eq_getElem_cons hiu, Tm.vrts] at hre;have hsk : Tm.sizes (a.kids.take (i + 1)) = Tm.sizes (a.kids.take i) + a.kids[i].size := by
      rw [List.take_succ_eq_append_getElem hlt, qbt, Tm.sizes, Tm.sizes]; rfl
     obtain ⟨y, hy⟩ : ∃ y, y = a.kids[i] := ⟨_, rfl⟩;obtain ⟨z, hz⟩ : ∃ z, z = b.kids[i] := ⟨_, rfl⟩;rw [← hy] at k0 k1 k2 k3 hri hst hvy hre hsk;rw [← hz] at l0 l1 l2 l3 hrj hvz hre;clear hy hz hpr htr hpl htl HE;have CL := IH.out y z Ai Aj ci cj mi m1 m2 (c + Tm.sizes (a.kids.take i)) D (by omega) hvy hvz hni hnj (by omega) HMD.out.m1 HMD.out.m2 hri hrj;obtain ⟨q, hq⟩ : ∃ q, q = y.vrt z mi := ⟨_, rfl⟩;rw [← hq] at CL hre;obtain ⟨q1, q2⟩ := q;simp only [Tm.val] at CL;have CL := Lib.hid CL;have HRE := Lib.hid hre;clear hq hre hvy hvz hri hrj;obtain ⟨-, -, -, a3, -⟩ := qar a (HMD.out.b1);obtain ⟨-, -, -, b3, -⟩ := qar b (HMD.out.b2);have nb : ∀ k, k < B → k < D.heap.size ∧ k ≠ tb ∧ k ≠ kb := fun k hk => ⟨by omega, by omega, by omega⟩;have nw : ∀ k, w.heap.size ≤ k → k < w.heap.size + 2 → k < D.heap.size ∧ k ≠ tb ∧ k ≠ kb := fun k hk hk2 => ⟨by omega, by omega, by omega⟩
     have sD : ∀ p : Addr, p.block < D.heap.size → p.block ≠ tb → p.block ≠ kb → D.cell? p = D.cell? p := fun _ _ _ _ => rfl;refine qaa (v := .pointer (some ⟨w.heap.size, 3, none⟩)) rfl rfl rfl (fun _ _ _ h => h) trivial sD (fun Y _ hY => by
      (try simp only [Act.put]); go_simp) ?_
     refine qaa (v := .slice (some ⟨pb, poff, none⟩) a.kids.length ca) rfl rfl rfl (fun _ _ _ h => h) trivial sD (fun Y _ hY => by
      have z3 := (hY ⟨w.heap.size, 3, none⟩ (nw w.heap.size (Nat.le_refl _) (by omega)).1 (nw w.heap.size (Nat.le_refl _) (by omega)).2.1 (nw w.heap.size (Nat.le_refl _) (by omega)).2.2).trans a3;clear hY
      (try simp only [Act.put]); go_simp) ?_
     refine qaa (v := .int .i64 i) rfl rfl rfl (fun _ _ _ h => h) trivial sD (fun Y _ hY => by
      (try simp only [Act.put]); go_simp) ?_
     refine qaa (v := .pointer (some ⟨pb, poff + i * 4, none⟩)) rfl rfl rfl (fun _ _ _ h => h) trivial sD (fun Y _ hY => by
      (try simp only [Act.put]); go_simp) ?_
     simp only [Act.put, List.setIfInBounds_toArray, List.set_cons_succ, List.set_cons_zero, List.getElem_toArray, List.getElem_cons_succ, List.getElem_cons_zero];refine qaa (v := .agg #[.int .i64 y.kind, .string y.name, .int .i64 y.sort, .slice Ai y.kids.length ci]) rfl rfl rfl (fun _ _ _ h => h) trivial sD (fun Y _ hY => by
      have z0 := (hY ⟨pb, poff + i * 4, none⟩ (nb pb hpB).1 (nb pb hpB).2.1 (nb pb hpB).2.2).trans k0;have z1 := (hY ⟨pb, poff + i * 4 + 1, none⟩ (nb pb hpB).1 (nb pb hpB).2.1 (nb pb hpB).2.2).trans k1;have z2 := (hY ⟨pb, poff + i * 4 + 2, none⟩ (nb pb hpB).1 (nb pb hpB).2.1 (nb pb hpB).2.2).trans k2;have z3 := (hY ⟨pb, poff + i * 4 + 3, none⟩ (nb pb hpB).1 (nb pb hpB).2.1 (nb pb hpB).2.2).trans k3;clear hY
      (try simp only [Act.put]); go_simp) ?_
     refine qaa (v := .pointer (some ⟨w.heap.size + 1, 3, none⟩)) rfl rfl rfl (fun _ _ _ h => h) trivial sD (fun Y _ hY => by
      (try simp only [Act.put]); go_simp) ?_
     refine qaa (v := .slice (some ⟨qb, qoff, none⟩) b.kids.length cb) rfl rfl rfl (fun _ _ _ h => h) trivial sD (fun Y _ hY => by
      have z3 := (hY ⟨w.heap.size + 1, 3, none⟩ (nw (w.heap.size + 1) (by omega) (by omega)).1 (nw (w.heap.size + 1) (by omega) (by omega)).2.1 (nw (w.heap.size + 1) (by omega) (by omega)).2.2).trans b3;clear hY
      (try simp only [Act.put]); go_simp) ?_
     refine qaa (v := .int .i64 i) rfl rfl rfl (fun _ _ _ h => h) trivial sD (fun Y _ hY => by
      (try simp only [Act.put]); go_simp) ?_
     simp only [Act.put, List.setIfInBounds_toArray, List.set_cons_succ, List.set_cons_zero, List.getElem_toArray, List.getElem_cons_succ, List.getElem_cons_zero];refine qaa (v := .pointer (some ⟨qb, qoff + i * 4, none⟩)) rfl rfl rfl (fun _ _ _ h => h) trivial sD (fun Y _ hY => by
      (try simp only [Act.put]); go_simp) ?_
     refine qaa (v := .agg #[.int .i64 z.kind, .string z.name, .int .i64 z.sort, .slice Aj z.kids.length cj]) rfl rfl rfl (fun _ _ _ h => h) trivial sD (fun Y _ hY => by
      have z0 := (hY ⟨qb, qoff + i * 4, none⟩ (nb qb htB).1 (nb qb htB).2.1 (nb qb htB).2.2).trans l0;have z1 := (hY ⟨qb, qoff + i * 4 + 1, none⟩ (nb qb htB).1 (nb qb htB).2.1 (nb qb htB).2.2).trans l1;have z2 := (hY ⟨qb, qoff + i * 4 + 2, none⟩ (nb qb htB).1 (nb qb htB).2.1 (nb qb htB).2.2).trans l2;have z3 := (hY ⟨qb, qoff + i * 4 + 3, none⟩ (nb qb htB).1 (nb qb htB).2.1 (nb qb htB).2.2).trans l3;clear hY
      (try simp only [Act.put]); go_simp) ?_
     refine qaa (v := .map (some tb)) rfl rfl rfl (fun _ _ _ h => h) trivial sD (fun Y _ hY => by
      (try simp only [Act.put]); go_simp) ?_
     refine qaa (v := .map (some kb)) rfl rfl rfl (fun _ _ _ h => h) trivial sD (fun Y _ hY => by
      (try simp only [Act.put]); go_simp) ?_
     simp only [Act.put, List.setIfInBounds_toArray, List.set_cons_succ, List.set_cons_zero, List.getElem_toArray, List.getElem_cons_succ, List.getElem_cons_zero];refine qac rfl rfl (fun K hK => ?_);go_wp2_with fail
     refine CL.out.mono ?_; clear CL k0 k1 k2 k3 l0 l1 l2 l3 a3 b3;rintro e w5 hd5;obtain ⟨c1, c2, hc1', hc2', HM5⟩ := HMD.out.call hB htw hkw hd5;obtain ⟨rfl, -, hbel5, hold5⟩ := hd5;have s5 : ∀ p : Addr, p.block < D.heap.size → p.block ≠ tb → p.block ≠ kb → w5.cell? p = D.cell? p := fun p h1 h2 h3 => World.cell?_of_block (hold5 _ h1 h2 h3);refine hK _ _ ⟨⟨fun _ => trivial, s5⟩, ?_⟩;clear hK K hbel5 hold5;have HM5 := Lib.hid HM5;clear HMD;refine qaa (v := .bool (!q2)) rfl rfl rfl (fun _ _ _ h => h) trivial s5 (fun Y _ hY => by
      (try simp only [Act.put]); go_simp) ?_
     simp only [Act.put, List.setIfInBounds_toArray, List.set_cons_succ, List.set_cons_zero, List.getElem_toArray, List.getElem_cons_succ, List.getElem_cons_zero];refine qaj ?_;clear sD s5 nb nw
     cases q2 with
     | false =>
      have hrr : r = (q1, false) := HR2.out.trans HRE.out;clear IH HR2 HRE;subst hrr;go_wp2_with fail
      go_ret
      exact HM5.out.done (by omega) (by omega) false
     | true =>
      have HE5 : Hid (Tm.vrts a.kids b.kids m = Tm.vrts (a.kids.drop (i + 1)) (b.kids.drop (i + 1)) q1) := HRE.out;clear HRE;go_wp2_with fail
      go_roundw
      case rel => exact ⟨i + 1, q1, c1, c2, by go_num, by omega, by omega, by omega, HE5.out, HM5.out⟩
      case measure => simp [intOf]; omega
    ·obtain rfl : i = a.kids.length := by omega
     have he := HE.out;have he2 : Tm.vrts [] [] mi = (mi, true) := by rw [Tm.vrts]; simp
     rw [List.drop_length, show b.kids.drop a.kids.length = [] by rw [HKL.out, List.drop_length], he2] at he;have hrr : r = (mi, true) := HR2.out.trans he;rw [List.take_length] at hni hnj;clear IH HR2 HE;subst hrr;have hlen : ¬ ((a.kids.length : Int) < (b.kids.length : Int)) := by have := HKL.out; omega
     go_wp2_with fail
     go_ret
     exact HM.out.done (by omega) (by omega) true
end Go.Proofs.YtpjmdilpldaapaaGreatDoor
