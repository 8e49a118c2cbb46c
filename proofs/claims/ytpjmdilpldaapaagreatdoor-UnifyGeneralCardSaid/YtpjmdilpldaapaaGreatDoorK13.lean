/- Ugof (joined by shake.py). -/
import Derived.Test.YtpjmdilpldaapaaGreatDoorK12
set_option maxRecDepth 100000
namespace Go.Proofs.YtpjmdilpldaapaaGreatDoor
open Go.RowKit Go.Sort
set_option maxHeartbeats 4000000 in
theorem of_any (gb mb nn B : Nat) (N : List ByteArray) (w0 : World) (M : Nat) (HI : qb7 M w0) (hg0 : w0.heap.size ≤ gb) (hmb : mb < gb) (hBm : B ≤ mb) (hM : M ≤ 1000000) (n : Nat) :
  ∀ (t u : Tm) (T U : Option Addr) (ct cu : Nat) (g : Gs) (PA : Option Addr) (Pc : Nat) (VA : Option Addr) (Vc : Nat) (its : List IB) (vts : List It) (w : World), t.size ≤ n → t.valid = 0 → u.valid = 0 → GsOk N g → (N.length + 1) * (g.pairs.length + t.size) < M → g.pairs.length + t.size ≤ 1000000 → TabV g →
   GenAt gb mb nn B N g PA Pc VA Vc its vts w → Below w0.heap.size w0 w → RepP w (fun b => b < B) t T ct → RepP w (fun b => b < B) u U cu →
   Calls Tryz.prog 51 #[.pointer (some ⟨gb, 0, none⟩), t.val T ct, u.val U cu] w (Ofed gb mb nn B N (t.gen N u g) PA VA w) := by
 have mixed : Tryz.prog.follows .mixedOrders = true := by kernel_rfl
 induction n with
 | zero => intro t _ _ _ _ _ _ _ _ _ _ _ _ _ h; have := t.size_pos; omega
 | succ n ih =>
  intro t u T U ct cu g PA Pc VA Vc its vts w hn hvt hvu hok hbd hbp hps hgen hw0 hrt hru;have hgl := hgen.lt;have ht4 := qah hvt;have hu4 := qah hvu;have hB : B ≤ w.heap.size := by omega
  obtain ⟨V, hV⟩ : ∃ V, V = ((w.alloc (boxT t T ct)).alloc (boxT u U cu)).alloc (.cells #[.int .i64 0, .string ⟨#[]⟩, .int .i64 0, .slice none 0 0] 24) := ⟨_, rfl⟩;have hV2 : Two w t u T U ct cu ((w.alloc (boxT t T ct)).alloc (boxT u U cu)) := Two.new _ _ _ _ _ _ _;have hs2 : ((w.alloc (boxT t T ct)).alloc (boxT u U cu)).heap.size = w.heap.size + 1 + 1 := by simp
  have hbV : Below ((w.alloc (boxT t T ct)).alloc (boxT u U cu)).heap.size ((w.alloc (boxT t T ct)).alloc (boxT u U cu)) V := by rw [hV]; exact qaf (Nat.le_refl _) _
  have hwV := qae hV2.lay.below hbV hV2.lay.size;have ho : OAt gb mb nn B N g PA VA w (boxT t T ct) (boxT u U cu) PA Pc VA Vc its vts V := by
   refine ⟨hgen.below hwV, (hbV.block _ (by omega)).trans hV2.one, (hbV.block _ (by omega)).trans hV2.two, ?_, hwV.mono (Nat.le_of_lt hgl), fun k hk _ _ _ => hwV.block k hk, fun k e => .inl e, fun k e => .inl e⟩;rw [hV, ← hs2]; exact heap_alloc_new _ _
  clear hV2 hs2 hbV;have up : Hid (∀ (Z : World) (y : Tm) (Y : Option Addr) (cy : Nat), Below gb w Z → B ≤ Z.heap.size → RepP w (fun b => b < B) y Y cy → RepP Z (fun b => b < B) y Y cy) := Lib.hid fun Z y Y cy hZ hBZ h => RepP.mono (fun _ h => h) (fun p (hp : p.block < B) => hZ.cell (by omega)) _ _ _ h;have hup : ∀ (Z : World) (y : Tm) (Y : Option Addr) (cy : Nat), Below gb w Z → w.heap.size ≤ Z.heap.size → RepP w (fun b => b < B) y Y cy → RepT Z Z.heap.size y Y cy := fun Z y Y cy hZ hs h => RepP.mono (fun b (hb : b < B) => by show b < _; omega) (fun p (hp : p.block < B) => hZ.cell (by omega)) _ _ _ h;have HUP := Lib.hid hup; clear hup;have SM := qck t u T U ct cu V (by omega) (by omega) (HUP.out V _ _ _ ho.bel (by have := ho.lt; omega) hrt) (HUP.out V _ _ _ ho.bel (by have := ho.lt; omega) hru)
  have AL : Hid (∀ Z, Calls Tryz.prog 73 #[t.val T ct, u.val U cu] Z fun e w' => e = .returned (.bool (qa1 t u)) ∧ Lay Z.heap.size Z w') := Lib.hid fun Z => qgz t u T U ct cu Z (by have := qb6 t; omega) (by have := qb6 u; omega);obtain ⟨qs, hqs⟩ : ∃ q, q = decide (t = u) := ⟨_, rfl⟩;rw [← hqs] at SM;have HQS := Lib.hid hqs; clear hqs;obtain ⟨qk, hqk⟩ : ∃ q, q = qa1 t u := ⟨_, rfl⟩;rw [← hqk] at AL;have HQK := Lib.hid hqk; clear hqk;obtain ⟨res, hres⟩ : ∃ r, r = t.gen N u g := ⟨_, rfl⟩;rw [← hres];rw [gen_eq] at hres;have HRES := Lib.hid hres; clear hres;have HO := Lib.hid ho; clear ho;have HRT := Lib.hid hrt; clear hrt;have HRU := Lib.hid hru; clear hru;have HVT := Lib.hid hvt; clear hvt;have HVU := Lib.hid hvu; clear hvu;have HOK := Lib.hid hok; clear hok;have HBD := Lib.hid hbd; clear hbd;have HPS := Lib.hid hps; clear hps
  have HGEN := Lib.hid hgen; clear hgen;have HW0 := Lib.hid hw0; clear hw0;have IH := Lib.hid ih; clear ih;simp only [boxT] at hV;have HV := Lib.hid hV; clear hV hwV;simp only [Tm.val] at SM AL ⊢;have SM := Lib.hid SM;go_enter Tryz.func51, Tryz.ntmps51
  refine wp_seq_k (fun K hK => ?_);refine qb8 (fun a0 a' w' => a' = (((a0.put (some 4) (.pointer (some ⟨w.heap.size, 0, none⟩))).put (some 5) (.pointer (some ⟨w.heap.size + 1, 0, none⟩))).put (some 6) (.pointer (some ⟨w.heap.size + 1 + 1, 0, none⟩))) ∧ w' = V) ?_ ?_
  ·go_wp2_with fail
   exact HV.out.symm
  rintro a' w' ⟨rfl, hw'⟩;rw [hw'];clear hw' w';refine hK _ _ ?_;clear hK K HV;obtain ⟨a0, a1, a2, a3, af⟩ := qam t (HO.out.b1);obtain ⟨b0, b1, b2, b3, bf⟩ := qam u (HO.out.b2);obtain ⟨z0, z1, z2, z3, zf⟩ := qad HO.out.b3;go_wp2_with fail
  refine SM.out.mono ?_; clear SM; clear a0 a1 a2 a3 af b0 b1 b2 b3 bf z0 z1 z2 z3 zf;rintro e w1 ⟨rfl, hl1⟩;have HO1 := Lib.hid (HO.out.go hl1.below); clear HO hl1;obtain ⟨a0, a1, a2, a3, af⟩ := qam t (HO1.out.b1);obtain ⟨b0, b1, b2, b3, bf⟩ := qam u (HO1.out.b2);obtain ⟨z0, z1, z2, z3, zf⟩ := qad HO1.out.b3
  cases qs with
  | true =>
   have hr : res = (t, g) := HRES.out.trans (if_pos (of_decide_eq_true HQS.out.symm));have HR := Lib.hid hr; clear hr HRES AL IH;go_wp2_with fail
   refine bodyPost_ret (v := .agg #[.int .i64 t.kind, .string t.name, .int .i64 t.sort, .slice T t.kids.length ct]) ?_ rfl ?_
   ·simp [results, Tryz.results51, go_sem, z0, z1, z2, z3]
   refine ⟨T, ct, PA, Pc, VA, Vc, its, vts, by rw [HR.out]; rfl, ?_⟩;rw [HR.out];exact HO1.out.give hB hgl hmb (fun k e => (HGEN.out.own1 k e).2) (fun k e => (HGEN.out.own2 k e).2) (RepP.mono (fun b hb => .inl hb) (fun _ _ => rfl) _ _ _ (up.out w1 _ _ _ HO1.out.bel (by have := HO1.out.lt; omega) HRT.out))
  | false =>
  have hne : t ≠ u := of_decide_eq_false HQS.out.symm;have hr := HRES.out.trans (if_neg hne);have HNE := Lib.hid hne; clear hne HQS;have HRES1 := Lib.hid hr; clear hr HRES;have AL := Lib.hid (AL.out w1);go_wp2_with fail
  refine AL.out.mono ?_; clear AL; clear a0 a1 a2 a3 af b0 b1 b2 b3 bf z0 z1 z2 z3 zf;rintro e w2 ⟨rfl, hl2⟩;have HO2 := Lib.hid (HO1.out.go hl2.below); clear HO1 hl2;obtain ⟨a0, a1, a2, a3, af⟩ := qam t (HO2.out.b1);obtain ⟨b0, b1, b2, b3, bf⟩ := qam u (HO2.out.b2);obtain ⟨z0, z1, z2, z3, zf⟩ := qad HO2.out.b3
  cases qk with
  | true =>
   have hal : qa1 t u = true := HQK.out.symm;have hr := HRES1.out.trans (if_pos hal);have HR := Lib.hid hr; clear hr HRES1 HQK;have hpos := qh5 HVT.out HVU.out HNE.out hal;obtain ⟨-, -, -, hkl⟩ := qa0.1 hal;have hkt := qb6 t;have HKL := Lib.hid hkl; clear hal hkl;obtain ⟨i0, hi0, hz0, hz1, hz2⟩ := info_parts qca;have hlt2 := HO2.out.lt;go_wp2_with (at_make; refine wpList_make_full w2 rfl _ _ 22 rfl (w.heap.size + 3) 24 i0 (.agg #[.int .i64 0, .string ⟨#[]⟩, .int .i64 0, .slice none 0 0]) 4 Tryz.underlying22 hi0 hz0 hz1 _ _ _ _ t.kids.length rfl rfl rfl rfl (by rw [hz2]; omega) (by unfold maxLen; omega) hlt2 ?_)
   intro w3 hown hgr;obtain ⟨k9, hk9⟩ : ∃ k9, k9 = w2.heap.size := ⟨_, rfl⟩;have hb3 : Below w2.heap.size w2 w3 := (Below.refl w2.heap.size w2).grown hgr (Nat.le_refl _) (fun j e => by cases e);have hn9 : ownA PA ≠ some k9 ∧ ownA VA ≠ some k9 := ⟨fun e => by have := (HO2.out.gen.own1 k9 e).2; omega, fun e => by have := (HO2.out.gen.own2 k9 e).2; omega⟩;have hrow0 : RowT w3 (w.heap.size + 3) (KidF B (w.heap.size + 3) PA VA) (.slice (some ⟨k9, 0, none⟩) t.kids.length t.kids.length) (List.replicate t.kids.length ((Tm.mk 0 ⟨#[]⟩ 0 [], none, 0) : It)) :=
    ⟨by rw [List.length_replicate, ← qga, hk9]; exact hown, fun x hx => by obtain rfl := List.eq_of_mem_replicate hx; exact qf1 _ _ _ (Nat.zero_le _)⟩
   have HO3 := Lib.hid (HO2.out.go hb3); clear HO2;rw [← hk9];have hkw : w.heap.size + 3 ≤ k9 := by omega
   have HROW0 := Lib.hid hrow0; clear hrow0 hown hgr hb3 hi0 hz0 hz1 hz2 hk9 hlt2;have HN9 := Lib.hid hn9; clear hn9;clear a0 a1 a2 a3 af b0 b1 b2 b3 bf z0 z1 z2 z3 zf;obtain ⟨-, -, -, a3, -⟩ := qam t (HO3.out.b1);go_wp2_with fail
   clear a3;go_loopw [26] (fun a wr => ∃ (i : Nat) (cur : List It) (PA' : Option Addr) (Pc' : Nat) (VA' : Option Addr) (Vc' : Nat) (its' : List IB) (vts' : List It), a = .int .i64 i ∧ i ≤ t.kids.length ∧ cur.length = t.kids.length ∧
     Hid (RowT wr (w.heap.size + 3) (KidF B (w.heap.size + 3) PA' VA') (.slice (some ⟨k9, 0, none⟩) t.kids.length t.kids.length) cur) ∧ Hid ((cur.take i).map (·.1) = (Tm.gens N (t.kids.take i) (u.kids.take i) g).1) ∧
     Hid (OAt gb mb nn B N (Tm.gens N (t.kids.take i) (u.kids.take i) g).2 PA VA w (boxT t T ct) (boxT u U cu) PA' Pc' VA' Vc' its' vts' wr) ∧ Hid (ownA PA' ≠ some k9 ∧ ownA VA' ≠ some k9)) (fun a _ => t.kids.length - (intOf a).toNat)
   case atStart => exact ⟨0, _, PA, Pc, VA, Vc, its, vts, rfl, Nat.zero_le _, List.length_replicate .., HROW0.out, by show _ = _; simp [Tm.gens], by simpa [Tm.gens] using HO3, HN9.out⟩
   case round =>
    clear HROW0 HO3 HN9;obtain ⟨i, cur, PA', Pc', VA', Vc', its', vts', rfl, hi, hcl, HRW, HM, HOR, HN9⟩ := hrel;have hor3 := HOR.out.lt;by_cases hlt : i < t.kids.length
    ·have hiu : i < u.kids.length := by have := HKL.out; omega
     rcases (qih HRT.out).2.2.2 with h | ⟨tb, toff, hT, htB, htl⟩
     ·rw [h] at hlt; simp at hlt
     rcases (qih HRU.out).2.2.2 with h | ⟨ub, uoff, hU, huB, hul⟩
     ·rw [h] at hiu; simp at hiu
     subst hT hU;have HOD : Hid (OAt gb mb nn B N (Tm.gens N (t.kids.take i) (u.kids.take i) g).2 PA VA w (boxT t (some ⟨tb, toff, none⟩) ct) (boxT u (some ⟨ub, uoff, none⟩) cu) PA' Pc' VA' Vc' its' vts' wr.drew) := HOR.out.go (Below.refl _ _).drew;have HRD : Hid (RowT wr.drew (w.heap.size + 3) (KidF B (w.heap.size + 3) PA' VA') (.slice (some ⟨k9, 0, none⟩) t.kids.length t.kids.length) cur) := HRW.out.drew;have hsD : wr.drew.heap.size = wr.heap.size := rfl;have i1 : (0 : Int) ≤ (i : Int) := Int.natCast_nonneg _;have i2 : (i : Int) < (t.kids.length : Int) := by omega
     have i3 : (i : Int) < (u.kids.length : Int) := by omega
     clear HRW HOR;go_wp2_with fail
     refine qal (fun _ => True) (fun Y => ∀ p : Addr, p.block < wr.drew.heap.size → p.block ≠ gb → p.block ≠ k9 → ownA PA' ≠ some p.block → ownA VA' ≠ some p.block → Y.cell? p = wr.drew.cell? p) [] (.held 0 (.held 1 (.held 2 (.held 3 (.held 4 (.held 5 (.held 6 (.held 7 (.held 8 (.held 9 (.held 10 (.held 11 (.held 12 (.op 13 (.op 14 (.op 15 .nil)))))))))))))))) mixed (by kernel_rfl) ?_;rw [← hsD] at hor3;generalize wr.drew = D at *;have htr : qao D (fun b => b < B) t.kids tb toff := qao.mono (fun _ h => h) (fun p (hp : p.block < B) => HOD.out.bel.cell (by omega)) _ _ _ htB htl;have hur : qao D (fun b => b < B) u.kids ub uoff := qao.mono (fun _ h => h) (fun p (hp : p.block < B) => HOD.out.bel.cell (by omega)) _ _ _ huB hul;obtain ⟨Ai, ci, k0, k1, k2, k3, hri⟩ := htr.get i hlt;obtain ⟨Aj, cj, l0, l1, l2, l3, hrj⟩ := hur.get i hiu;have hsz := Tm.sizes_get t.kids i hlt
     have hst := qd5 t.kids i hlt;have hs3 := size3 t;have hvy := qat HVT.out (List.getElem_mem hlt);have hvz := qat HVU.out (List.getElem_mem hiu);obtain ⟨gk1, gk2, gk3, gk4⟩ := qik (t.kids.take i) (u.kids.take i) g HOK.out;have gk5 := qf7 N (t.kids.take i) (u.kids.take i) g HPS.out (fun x hx => qat HVT.out (List.mem_of_mem_take hx)) (fun x hx => qat HVU.out (List.mem_of_mem_take hx));have hgt := qjp N g HKL.out i hlt;obtain ⟨y, hy⟩ : ∃ y, y = t.kids[i] := ⟨_, rfl⟩;obtain ⟨z, hz⟩ : ∃ z, z = u.kids[i] := ⟨_, rfl⟩;obtain ⟨gi, hgi⟩ : ∃ gi, gi = (Tm.gens N (t.kids.take i) (u.kids.take i) g).2 := ⟨_, rfl⟩;rw [← hy] at k0 k1 k2 k3 hri hsz hst hvy hgt;rw [← hz] at l0 l1 l2 l3 hrj hvz hgt;rw [← hgi] at gk1 gk2 gk3 gk4 gk5 hgt HOD;clear hy hz hgi htr hur htl hul
     have hbm : (N.length + 1) * (gi.pairs.length + y.size) < M := Nat.lt_of_le_of_lt (Nat.mul_le_mul_left _ (by omega)) HBD.out;have CL := IH.out y z Ai Aj ci cj gi PA' Pc' VA' Vc' its' vts' D (by omega) hvy hvz gk1 hbm (by omega) gk5 HOD.out.gen (HW0.out.trans (HOD.out.bel.mono hg0)) hri hrj;obtain ⟨q, hq⟩ : ∃ q, q = y.gen N z gi := ⟨_, rfl⟩;rw [← hq] at CL hgt;simp only [Tm.val] at CL;have CL := Lib.hid CL;have HGT := Lib.hid hgt;clear hq hgt hbm gk1 gk2 gk3 gk4 gk5 hvy hvz hsz hst hs3 hri hrj;obtain ⟨-, -, -, a3, -⟩ := qam t (HOD.out.b1);obtain ⟨-, -, -, b3, -⟩ := qam u (HOD.out.b2);have ho1 := HOD.out.gen.own1;have ho2 := HOD.out.gen.own2;have hoA := HOD.out.own1;have hoB := HOD.out.own2;have hPw : ∀ k, ownA PA = some k → k < w.heap.size := fun k e => (HGEN.out.own1 k e).2;have hVw : ∀ k, ownA VA = some k → k < w.heap.size := fun k e => (HGEN.out.own2 k e).2
     have nb : ∀ k, k < B → k < D.heap.size ∧ k ≠ gb ∧ k ≠ k9 ∧ ownA PA' ≠ some k ∧ ownA VA' ≠ some k := fun k hk => ⟨by omega, by omega, by omega, fun e => by have := ho1 k e; omega, fun e => by have := ho2 k e; omega⟩;have nw : ∀ k, w.heap.size ≤ k → k < w.heap.size + 3 → k < D.heap.size ∧ k ≠ gb ∧ k ≠ k9 ∧ ownA PA' ≠ some k ∧ ownA VA' ≠ some k := fun k hk hk2 => ⟨by omega, by omega, by omega, fun e => by rcases hoA k e with h | h; have := hPw k h; omega; omega, fun e => by rcases hoB k e with h | h; have := hVw k h; omega; omega⟩;refine qaa (v := .slice (some ⟨k9, 0, none⟩) t.kids.length t.kids.length) rfl rfl rfl (fun _ _ _ h => h) trivial (fun _ _ _ _ _ _ => rfl) (fun Y _ hY => by
      (try simp only [Act.put]); go_simp) ?_
     refine qaa (v := .int .i64 i) rfl rfl rfl (fun _ _ _ h => h) trivial (fun _ _ _ _ _ _ => rfl) (fun Y _ hY => by
      (try simp only [Act.put]); go_simp) ?_
     refine qaa (v := .pointer (some ⟨gb, 0, none⟩)) rfl rfl rfl (fun _ _ _ h => h) trivial (fun _ _ _ _ _ _ => rfl) (fun Y _ hY => by
      (try simp only [Act.put]); go_simp) ?_
     refine qaa (v := .pointer (some ⟨w.heap.size, 3, none⟩)) rfl rfl rfl (fun _ _ _ h => h) trivial (fun _ _ _ _ _ _ => rfl) (fun Y _ hY => by
      (try simp only [Act.put]); go_simp) ?_
     refine qaa (v := .slice (some ⟨tb, toff, none⟩) t.kids.length ct) rfl rfl rfl (fun _ _ _ h => h) trivial (fun _ _ _ _ _ _ => rfl) (fun Y _ hY => by
      have z3 := (hY ⟨w.heap.size, 3, none⟩ (nw w.heap.size (Nat.le_refl _) (by omega)).1 (nw w.heap.size (Nat.le_refl _) (by omega)).2.1 (nw w.heap.size (Nat.le_refl _) (by omega)).2.2.1 (nw w.heap.size (Nat.le_refl _) (by omega)).2.2.2.1 (nw w.heap.size (Nat.le_refl _) (by omega)).2.2.2.2).trans a3
      (try simp only [Act.put]); go_simp) ?_
     refine qaa (v := .int .i64 i) rfl rfl rfl (fun _ _ _ h => h) trivial (fun _ _ _ _ _ _ => rfl) (fun Y _ hY => by
      (try simp only [Act.put]); go_simp) ?_
     refine qaa (v := .pointer (some ⟨tb, toff + i * 4, none⟩)) rfl rfl rfl (fun _ _ _ h => h) trivial (fun _ _ _ _ _ _ => rfl) (fun Y _ hY => by
      (try simp only [Act.put]); go_simp) ?_
     refine qaa (v := .agg #[.int .i64 y.kind, .string y.name, .int .i64 y.sort, .slice Ai y.kids.length ci]) rfl rfl rfl (fun _ _ _ h => h) trivial (fun _ _ _ _ _ _ => rfl) (fun Y _ hY => by
      have z0 := (hY ⟨tb, toff + i * 4, none⟩ (nb tb htB).1 (nb tb htB).2.1 (nb tb htB).2.2.1 (nb tb htB).2.2.2.1 (nb tb htB).2.2.2.2).trans k0;have z1 := (hY ⟨tb, toff + i * 4 + 1, none⟩ (nb tb htB).1 (nb tb htB).2.1 (nb tb htB).2.2.1 (nb tb htB).2.2.2.1 (nb tb htB).2.2.2.2).trans k1;have z2 := (hY ⟨tb, toff + i * 4 + 2, none⟩ (nb tb htB).1 (nb tb htB).2.1 (nb tb htB).2.2.1 (nb tb htB).2.2.2.1 (nb tb htB).2.2.2.2).trans k2;have z3 := (hY ⟨tb, toff + i * 4 + 3, none⟩ (nb tb htB).1 (nb tb htB).2.1 (nb tb htB).2.2.1 (nb tb htB).2.2.2.1 (nb tb htB).2.2.2.2).trans k3
      (try simp only [Act.put]); go_simp) ?_
     refine qaa (v := .pointer (some ⟨w.heap.size + 1, 3, none⟩)) rfl rfl rfl (fun _ _ _ h => h) trivial (fun _ _ _ _ _ _ => rfl) (fun Y _ hY => by
      (try simp only [Act.put]); go_simp) ?_
     refine qaa (v := .slice (some ⟨ub, uoff, none⟩) u.kids.length cu) rfl rfl rfl (fun _ _ _ h => h) trivial (fun _ _ _ _ _ _ => rfl) (fun Y _ hY => by
      have z3 := (hY ⟨w.heap.size + 1, 3, none⟩ (nw (w.heap.size + 1) (by omega) (by omega)).1 (nw (w.heap.size + 1) (by omega) (by omega)).2.1 (nw (w.heap.size + 1) (by omega) (by omega)).2.2.1 (nw (w.heap.size + 1) (by omega) (by omega)).2.2.2.1 (nw (w.heap.size + 1) (by omega) (by omega)).2.2.2.2).trans b3
      (try simp only [Act.put]); go_simp) ?_
     refine qaa (v := .int .i64 i) rfl rfl rfl (fun _ _ _ h => h) trivial (fun _ _ _ _ _ _ => rfl) (fun Y _ hY => by
      (try simp only [Act.put]); go_simp) ?_
     refine qaa (v := .pointer (some ⟨ub, uoff + i * 4, none⟩)) rfl rfl rfl (fun _ _ _ h => h) trivial (fun _ _ _ _ _ _ => rfl) (fun Y _ hY => by
      (try simp only [Act.put]); go_simp) ?_
     refine qaa (v := .agg #[.int .i64 z.kind, .string z.name, .int .i64 z.sort, .slice Aj z.kids.length cj]) rfl rfl rfl (fun _ _ _ h => h) trivial (fun _ _ _ _ _ _ => rfl) (fun Y _ hY => by
      have z0 := (hY ⟨ub, uoff + i * 4, none⟩ (nb ub huB).1 (nb ub huB).2.1 (nb ub huB).2.2.1 (nb ub huB).2.2.2.1 (nb ub huB).2.2.2.2).trans l0;have z1 := (hY ⟨ub, uoff + i * 4 + 1, none⟩ (nb ub huB).1 (nb ub huB).2.1 (nb ub huB).2.2.1 (nb ub huB).2.2.2.1 (nb ub huB).2.2.2.2).trans l1;have z2 := (hY ⟨ub, uoff + i * 4 + 2, none⟩ (nb ub huB).1 (nb ub huB).2.1 (nb ub huB).2.2.1 (nb ub huB).2.2.2.1 (nb ub huB).2.2.2.2).trans l2;have z3 := (hY ⟨ub, uoff + i * 4 + 3, none⟩ (nb ub huB).1 (nb ub huB).2.1 (nb ub huB).2.2.1 (nb ub huB).2.2.2.1 (nb ub huB).2.2.2.2).trans l3
      (try simp only [Act.put]); go_simp) ?_
     simp only [Act.put, List.setIfInBounds_toArray];clear a3 b3 k0 k1 k2 k3 l0 l1 l2 l3;refine qab rfl rfl (fun K hK => ?_);go_wp2_with fail
     refine CL.out.mono ?_; clear CL;rintro e w5 ⟨A5, c5, PA5, Pc5, VA5, Vc5, its5, vts5, rfl, hof⟩;have hs2 : ∀ p : Addr, p.block < D.heap.size → p.block ≠ gb → p.block ≠ k9 → ownA PA' ≠ some p.block → ownA VA' ≠ some p.block → w5.cell? p = D.cell? p := fun p hp e1 _ e3 e4 => World.cell?_of_block (hof.old _ hp e1 e3 e4);refine hK _ _ ⟨⟨fun _ => trivial, hs2⟩, ?_⟩;clear hK K;have HO5 := Lib.hid (HOD.out.call hgl hPw hVw hof);have hR5 := rowT_call HRD.out hof (by omega) (by omega) HN9.out.1 HN9.out.2 (fun k e => (ho1 k e).1) (fun k e => (ho2 k e).1);have hkD := (HRD.out.lt k9 rfl).2;have hs5 := hof.size;have hn5 : ownA PA5 ≠ some k9 ∧ ownA VA5 ≠ some k9 := ⟨fun e => by
      rcases hof.own1 k9 e with h | h
      ·exact HN9.out.1 h
      ·omega, fun e => by
      rcases hof.own2 k9 e with h | h
      ·exact HN9.out.2 h
      ·omega⟩
     have hrep5 : RepP w5 (fun k => KidF B (w.heap.size + 3) PA5 VA5 k ∧ k < w5.heap.size ∧ k9 ≠ k) q.1 A5 c5 := RepP.mono (fun k h => by
      rcases h with h | ⟨h1, h2, h3, h4⟩
      ·exact ⟨.inl h, by omega, by omega⟩
      ·exact ⟨.inr ⟨by omega, h3, h4⟩, h2, by omega⟩) (fun _ _ => rfl) _ _ _ hof.rep
     have hic : i < cur.length := by omega
     obtain ⟨m0, m1, m2, m3, m4⟩ := hR5.slot hcl.symm i hic;have HSE := Lib.hid (hR5.set hcl.symm i (by omega) (q.1, A5, c5) hrep5);have HN5 := Lib.hid hn5; clear hn5;clear hR5 hrep5 hof HOD HRD;obtain ⟨q1, q2⟩ := q;dsimp only at HSE HO5 HGT ⊢;generalize cur[i] = old at m0 m1 m2 m3;simp only [Tm.val];refine qab rfl rfl (fun K hK => ?_);go_wp2_with fail
     refine ⟨⟨fun _ => trivial, hs2⟩, ?_⟩;refine qab rfl rfl (fun K hK => ?_);go_wp2_with fail
     refine ⟨⟨fun _ => trivial, fun p hp e1 e2 e3 e4 => ?_⟩, qap ?_⟩
     ·have hne : ∀ o, (⟨k9, o, none⟩ : Addr) ≠ p := fun o e => e2 (by rw [← e]);rw [World.cell?_setCell_other _ _ _ _ (hne _), World.cell?_setCell_other _ _ _ _ (hne _), World.cell?_setCell_other _ _ _ _ (hne _), World.cell?_setCell_other _ _ _ _ (hne _)];exact hs2 p hp e1 e2 e3 e4
     clear hs2 m0 m1 m2 m3 m4;go_wp2_with fail
     go_roundw
     case rel =>
      refine ⟨i + 1, cur.set i (q1, A5, c5), PA5, Pc5, VA5, Vc5, its5, vts5, by go_num, by omega, by rw [List.length_set]; exact hcl, HSE.out, ?_, ?_, HN5.out⟩
      ·show _ = _;rw [take_set _ _ hic, List.map_append, HM.out, HGT.out]; rfl
      ·rw [HGT.out];exact (((HO5.out.write hgl hmb hBm _ (by show _ ≤ k9; omega) HN5.out.1 HN5.out.2).write hgl hmb hBm _ (by show _ ≤ k9; omega) HN5.out.1 HN5.out.2).write hgl hmb hBm _ (by show _ ≤ k9; omega) HN5.out.1 HN5.out.2).write hgl hmb hBm _ (by show _ ≤ k9; omega) HN5.out.1 HN5.out.2
     case measure => simp [intOf]; omega
    ·obtain rfl : i = t.kids.length := by omega
     have hm := HM.out;have hor := HOR.out;rw [List.take_of_length_le (Nat.le_refl _), List.take_of_length_le (show u.kids.length ≤ t.kids.length by have := HKL.out; omega)] at hm hor;rw [List.take_of_length_le (by omega)] at hm;obtain ⟨A7, c7, he, hS⟩ := HRW.out.toS2 (P := fun b => b < B ∨ (w.heap.size + 3 ≤ b ∧ b < wr.heap.size ∧ ownA PA' ≠ some b ∧ ownA VA' ≠ some b)) (fun b h h' _ => h.imp id (fun h => ⟨h.1, h', h.2⟩)) (fun b e => by
      have e : some k9 = some b := e;injection e with e;subst e;exact .inr ⟨hkw, (HRW.out.lt _ rfl).2, HN9.out⟩)
     injection he with he1 he2 he3;subst he1 he3;rw [hm] at hS;have hlen : (Tm.gens N t.kids u.kids g).1.length = t.kids.length := by rw [← hm, List.length_map]; exact hcl
     obtain ⟨L, hL⟩ : ∃ L, L = (Tm.gens N t.kids u.kids g).1 := ⟨_, rfl⟩;obtain ⟨g', hg'⟩ : ∃ g', g' = (Tm.gens N t.kids u.kids g).2 := ⟨_, rfl⟩;have hr := HR.out;rw [← hL] at hS hlen hr;rw [← hg'] at hor hr;have hrn := (qih HRT.out).1;clear hm hL hg' HM HOR HR he2;have hbx := hor.box1 hgl hmb hBm (fun k e => (HGEN.out.own1 k e).2) (fun k e => (HGEN.out.own2 k e).2) (.slice (some ⟨k9, 0, none⟩) t.kids.length t.kids.length);have hrp : RepP (wr.setCell ⟨w.heap.size, 3, none⟩ (.slice (some ⟨k9, 0, none⟩) t.kids.length t.kids.length)) (fun b => b < B ∨ (w.heap.size + 3 ≤ b ∧ b < (wr.setCell ⟨w.heap.size, 3, none⟩ (.slice (some ⟨k9, 0, none⟩) t.kids.length t.kids.length)).heap.size ∧ ownA PA' ≠ some b ∧ ownA VA' ≠ some b)) (.mk t.kind t.name t.sort L) (some ⟨k9, 0, none⟩) t.kids.length := by
      rw [qa7];refine ⟨hrn, RepS.mono ?_ ?_ hS⟩
      ·rintro b (h | ⟨h1, h2, h3⟩)
       ·exact .inl h
       ·exact .inr ⟨h1, by simpa [World.setCell] using h2, h3⟩
      ·intro p hp;exact World.cell?_of_block (Below.heap_setCell _ _ _ _ (by show p.block ≠ w.heap.size; rcases hp with h | ⟨h, _⟩ <;> omega))
     have hgv := hbx.give hB hgl hmb (fun k e => (HGEN.out.own1 k e).2) (fun k e => (HGEN.out.own2 k e).2) hrp;simp only [Tm.kind, Tm.name, Tm.sort, Tm.kids, hlen] at hgv;obtain ⟨a0, a1, a2, a3, af⟩ := qam t (hor.b1);obtain ⟨z0, z1, z2, z3, zf⟩ := qad hor.b3;have HGV := Lib.hid hgv; clear hgv hbx hrp hS hor;have HRQ := Lib.hid hr; clear hr;have HLN := Lib.hid hlen; clear hlen;go_wp2_with fail
     refine bodyPost_ret (v := .agg #[.int .i64 t.kind, .string t.name, .int .i64 t.sort, .slice (some ⟨k9, 0, none⟩) t.kids.length t.kids.length]) ?_ rfl ?_
     ·simp [results, Tryz.results51, go_sem, z0, z1, z2, z3]
     refine ⟨some ⟨k9, 0, none⟩, t.kids.length, PA', Pc', VA', Vc', its', vts', by rw [HRQ.out]; simp only [Tm.val, Tm.kind, Tm.name, Tm.sort, Tm.kids, HLN.out], ?_⟩;rw [HRQ.out];exact HGV.out
  | false =>
  have hr := HRES1.out.trans (if_neg (by rw [← HQK.out]; decide));have HRES2 := Lib.hid hr; clear hr HRES1 HQK IH;obtain ⟨A7, c7, hv7, hrep7⟩ := HO2.out.gen.row.toB (P := fun b => b < w2.heap.size) (fun b _ h _ => h) (fun b h => (HO2.out.gen.row.lt b h).2);injection hv7 with g1 g2 g3;clear g2;subst g1 g3;have hpl : its.length ≤ 1000000 := by
   have h := congrArg List.length HO2.out.gen.pairs;rw [List.length_map] at h; omega
  have IX := qms (its.map IB.bd) PA Pc 78 #[.pointer (some ⟨w.heap.size, 0, none⟩), .pointer (some ⟨w.heap.size + 1, 0, none⟩)] (fun b => decide (b.1 = t) && decide (b.2 = u)) w2 (enters_of Tryz.func78 (by kernel_rfl) rfl)
   (fun b hb A c A' c' Z hZ h1 h2 => by
    have hbp := HPS.out b (by rw [← HO2.out.gen.pairs]; exact hb);have hl2 := HO2.out.lt;exact of1_any b t u A A' T U c c' ct cu w.heap.size (w.heap.size + 1) Z (by have := qah hbp.1; omega) (by have := qah hbp.2; omega) (by omega) (by omega) ((hZ.block _ (by omega)).trans HO2.out.b1) ((hZ.block _ (by omega)).trans HO2.out.b2) h1 h2
     ((HUP.out w2 _ _ _ HO2.out.bel (by omega) HRT.out).go hZ hZ.size) ((HUP.out w2 _ _ _ HO2.out.bel (by omega) HRU.out).go hZ hZ.size)) (by rw [List.length_map]; exact hpl) hrep7
  rw [List.length_map] at IX;have IX := Lib.hid IX;clear hrep7;obtain ⟨c0, c1, c2, c3, cf⟩ := qad (show w2.heap[gb]? = some (.cells #[.map (some mb), .int .i64 g.next, .slice PA its.length Pc, .slice VA vts.length Vc] 73 (0, 0)) from HO2.out.gen.cell);go_wp2_with fail
  refine IX.out.mono ?_; clear IX c0 c1 c2 c3 cf; clear a0 a1 a2 a3 af b0 b1 b2 b3 bf z0 z1 z2 z3 zf;rintro e w3 ⟨k, rfl, hfound, hb3⟩;have HO3 := Lib.hid (HO2.out.go hb3); clear HO2 hb3;have hvl : vts.length = g.vars.length := by rw [← HO3.out.gen.vars, List.length_map]
  rw [HO3.out.gen.pairs] at hfound;have hlook := qc0 g.pairs g.vars k HOK.out.len hfound;have HVL := Lib.hid hvl; clear hvl hfound;obtain ⟨a0, a1, a2, a3, af⟩ := qam t (HO3.out.b1);obtain ⟨b0, b1, b2, b3, bf⟩ := qam u (HO3.out.b2);obtain ⟨z0, z1, z2, z3, zf⟩ := qad HO3.out.b3;obtain ⟨c0, c1, c2, c3, cf⟩ := qad (show w3.heap[gb]? = some (.cells #[.map (some mb), .int .i64 g.next, .slice PA its.length Pc, .slice VA vts.length Vc] 73 (0, 0)) from HO3.out.gen.cell);rcases hlook with ⟨hk0, hnone⟩ | ⟨i, hi, hki, hsome⟩
  rotate_left
  ·have hi2 : i < vts.length := by have := HVL.out; omega
   have hr : res = (g.vars[i], g) := by rw [HRES2.out]; unfold qbz; rw [hsome]
   have hvi : (vts[i]).1 = g.vars[i] := by
    have h := congrArg (·[i]?) HO3.out.gen.vars;simp only [List.getElem?_map, List.getElem?_eq_getElem hi2, List.getElem?_eq_getElem hi, Option.map_some, Option.some.injEq] at h;exact h
   rw [← hvi] at hr;have hpos : 0 < vts.length := by omega
   obtain ⟨vb, rfl⟩ : ∃ vb, VA = some ⟨vb, 0, none⟩ := by
    rcases HO3.out.gen.vrow.own.2 with ⟨-, h⟩ | ⟨vb, cap, cur, h, -⟩
    ·omega
    ·injection h with h; exact ⟨vb, h⟩
   obtain ⟨m0, m1, m2, m3, -⟩ := HO3.out.gen.vrow.slot rfl i hi2;have hrep := HO3.out.gen.vrow.reps vts[i] (List.getElem_mem hi2);subst hki;obtain ⟨x, hx⟩ : ∃ x, x = vts[i] := ⟨_, rfl⟩;rw [← hx] at m0 m1 m2 m3 hrep hr;obtain ⟨v, Av, cv⟩ := x;dsimp only at m0 m1 m2 m3 hrep hr;have HR := Lib.hid hr; clear hr;have i1 : (0 : Int) ≤ (i : Int) := Int.natCast_nonneg _;have i2 : (i : Int) < (vts.length : Int) := by omega
   have HREP := Lib.hid hrep; clear hrep hvi hsome hx;go_wp2_with fail
   refine bodyPost_ret (v := .agg #[.int .i64 v.kind, .string v.name, .int .i64 v.sort, .slice Av v.kids.length cv]) ?_ rfl ?_
   ·simp [results, Tryz.results51, go_sem, z0, z1, z2, z3]
   refine ⟨Av, cv, PA, Pc, some ⟨vb, 0, none⟩, Vc, its, vts, by rw [HR.out]; rfl, ?_⟩;rw [HR.out];exact HO3.out.give hB hgl hmb (fun k e => (HGEN.out.own1 k e).2) (fun k e => (HGEN.out.own2 k e).2) (RepP.mono (fun b hb => False.elim hb.1) (fun _ _ => rfl) _ _ _ HREP.out)
  have hr : res = (newG N t u g, addG N t u g) := by rw [HRES2.out]; unfold qbz; rw [hnone]
  have HR := Lib.hid hr; clear hr hnone HRES2;obtain ⟨F, hF⟩ : ∃ F, F = qa9 N g.next := ⟨_, rfl⟩;have hFM : F < M := by
   have h1 := (qbq N g.next).2.1;rw [← hF] at h1;have h2 := HOK.out.next;have h3 := Nat.mul_le_mul_left (N.length + 1) (show g.pairs.length + 1 ≤ g.pairs.length + t.size by have := t.size_pos; omega);rw [Nat.mul_succ] at h3;have h4 := HBD.out;omega
  have hgs := qfk F (by omega);have hvl2 : vts.length + 1 ≤ 100000000 := by have := HVL.out; have := HOK.out.len; omega
  rcases eq_facts t.sort u.sort with ⟨s0, s1, s2⟩ | ⟨s0, s1, s2⟩
  ·skip
   have hxv : newG N t u g = .mk 1 (qax F) t.sort [] := by unfold newG; rw [if_pos s0, hF]
   have S0 := Lib.hid s0; clear s0;have FR := qjv gb mb nn N g.next (.slice PA its.length Pc) (.slice VA vts.length Vc) t.sort w0 w3 M HI (HW0.out.trans (HO3.out.bel.mono hg0)) hg0 (by rw [← hF]; exact hFM) hM HO3.out.gen.cell (by omega) HO3.out.gen.set;rw [← hF] at FR;obtain ⟨x, hx⟩ : ∃ x, x = Tm.mk 1 (qax F) t.sort [] := ⟨_, rfl⟩;rw [← hx] at FR hxv;have hxk : x.kids = [] := by rw [hx]; rfl
   have hxn : x.name.size ≤ maxLen := by rw [hx]; show (qax F).size ≤ maxLen; unfold maxLen; omega
   have hkx : x.kind = 1 := by rw [hx]; rfl
   clear hx hkx;simp only [Tm.val] at FR;have FR := Lib.hid FR;have HXK := Lib.hid hxk; clear hxk;have HXN := Lib.hid hxn; clear hxn;have HXV := Lib.hid hxv; clear hxv;have HFE := Lib.hid hF; clear hF;go_wp2_with fail
   refine FR.out.mono ?_; clear FR c0 c1 c2 c3 cf; clear a0 a1 a2 a3 af b0 b1 b2 b3 bf z0 z1 z2 z3 zf;rintro e w4 ⟨rfl, hfr⟩;have HO4 := Lib.hid (HO3.out.freshed hBm hmb hgl hfr); clear hfr HO3;obtain ⟨W5, hW5⟩ : ∃ W5, W5 = w4.alloc (boxT x none 0) := ⟨_, rfl⟩;have hb5 : Below w4.heap.size w4 W5 := by rw [hW5]; exact qaf (Nat.le_refl _) _
   have hx5 : W5.heap[w4.heap.size]? = some (boxT x none 0) := by rw [hW5]; exact heap_alloc_new _ _
   have hs5 : w4.heap.size < W5.heap.size := by rw [hW5]; simp
   have HOD : Hid (OAt gb mb nn B N { g with next := F + 1 } PA VA w (boxT t T ct) (boxT u U cu) PA Pc VA Vc its vts W5.drew) := (HO4.out.go hb5).go (Below.refl _ _).drew;have HX5 : Hid (W5.drew.heap[w4.heap.size]? = some (boxT x none 0)) := hx5;have hxbw : w.heap.size + 3 ≤ w4.heap.size := HO4.out.lt;simp only [boxT] at hW5;have HW5 := Lib.hid hW5; clear hW5 hx5 hb5 HO4;obtain ⟨xb, hxb⟩ : ∃ xb, xb = w4.heap.size := ⟨_, rfl⟩;go_wp2_with fail
   rw [← HW5.out, ← hxb];rw [← hxb] at HX5 hs5 hxbw;have HSD : Hid (W5.drew.heap.size = W5.heap.size) := rfl;clear hxb;have hnp : ∀ k, ownA PA = some k → k < w.heap.size ∧ gb < k := fun k e => by have := HGEN.out.own1 k e; omega
   have hnv : ∀ k, ownA VA = some k → k < w.heap.size ∧ gb < k := fun k e => by have := HGEN.out.own2 k e; omega
   have hxb4 : w.heap.size + 3 ≤ xb := hxbw;have m1 : ownA PA ≠ some gb ∧ ownA VA ≠ some gb := ⟨fun e => by have := hnp _ e; omega, fun e => by have := hnv _ e; omega⟩;have m2 : ownA PA ≠ some w.heap.size ∧ ownA VA ≠ some w.heap.size := ⟨fun e => by have := hnp _ e; omega, fun e => by have := hnv _ e; omega⟩;have m3 : ownA PA ≠ some (w.heap.size + 1) ∧ ownA VA ≠ some (w.heap.size + 1) := ⟨fun e => by have := hnp _ e; omega, fun e => by have := hnv _ e; omega⟩;have m4 : ownA PA ≠ some xb ∧ ownA VA ≠ some xb := ⟨fun e => by have := hnp _ e; omega, fun e => by have := hnv _ e; omega⟩;have hG0 : Grown2 gb B PA VA W5.drew PA Pc VA Vc its vts W5.drew := ⟨fun _ _ _ _ => rfl, Nat.le_refl _, Below.refl _ _, HOD.out.gen.row, HOD.out.gen.vrow, fun k e => .inl e, fun k e => .inl e, HOD.out.gen.apart⟩;obtain ⟨a0, a1, a2, a3, -⟩ := qam t (HOD.out.b1)
   obtain ⟨b0, b1, b2, b3, -⟩ := qam u (HOD.out.b2);obtain ⟨c0, c1, c2, c3, -⟩ := qad (show W5.drew.heap[gb]? = some (.cells #[.map (some mb), .int .i64 ((F + 1 : Nat) : Int), .slice PA its.length Pc, .slice VA vts.length Vc] 73 (0, 0)) from HOD.out.gen.cell);obtain ⟨d0, d1, d2, d3, -⟩ := qam x (HX5.out);have hgD := HOD.out.gen.lt;have hlD := HOD.out.lt;have hxD : xb < W5.drew.heap.size := (Array.getElem?_eq_some_iff.1 HX5.out).1;have HG0 := Lib.hid hG0; clear hG0
   refine qal (fun Y => Y.cell? ⟨gb, 2, none⟩ = W5.drew.cell? ⟨gb, 2, none⟩ ∧ Y.cell? ⟨gb, 3, none⟩ = W5.drew.cell? ⟨gb, 3, none⟩) (fun Y => ∀ p : Addr, p.block < W5.drew.heap.size → p.block ≠ gb → ownA PA ≠ some p.block → ownA VA ≠ some p.block → Y.cell? p = W5.drew.cell? p) [1, 11, 12, 13, 15, 20, 21, 22, 23] (.held 1 (.held 11 (.held 12 (.held 13 (.held 15 (.held 0 (.held 2 (.held 3 (.held 4 (.held 5 (.held 6 (.held 7 (.held 8 (.held 14 (.two 9 16 (.two 10 16 (.op 16 (.op 17 (.op 18 (.op 19 (.op 20 (.op 21 (.op 22 (.op 23 .nil)))))))) (.op 10 (.op 17 (.op 18 (.op 19 (.op 20 (.op 21 (.op 22 (.op 23 .nil))))))))) (.op 9 (.op 10 (.op 17 (.op 18 (.op 19 (.op 20 (.op 21 (.op 22 (.op 23 .nil)))))))))))))))))))))))) mixed (by kernel_rfl) ?_;generalize W5.drew = D at *
   refine qaz (v := .pointer (some ⟨gb, 0, none⟩)) rfl rfl rfl (fun _ _ _ h => h) (fun _ _ _ _ _ => rfl) (fun Y hY => by
    (try simp only [Act.put]); go_simp) ?_
   refine qaz (v := .pointer (some ⟨gb, 0, none⟩)) rfl rfl rfl (fun _ _ _ h => h) (fun _ _ _ _ _ => rfl) (fun Y hY => by
    (try simp only [Act.put]); go_simp) ?_
   refine qaz (v := .pointer (some ⟨gb, 0, none⟩)) rfl rfl rfl (fun _ _ _ h => h) (fun _ _ _ _ _ => rfl) (fun Y hY => by
    (try simp only [Act.put]); go_simp) ?_
   refine qaz (v := .pointer (some ⟨gb, 3, none⟩)) rfl rfl rfl (fun _ _ _ h => h) (fun _ _ _ _ _ => rfl) (fun Y hY => by
    (try simp only [Act.put]); go_simp) ?_
   refine qaz (v := .agg #[.int .i64 x.kind, .string x.name, .int .i64 x.sort, .slice none x.kids.length 0]) rfl rfl rfl (fun _ _ _ h => h) (fun _ _ _ _ _ => rfl) (fun Y hY => by
    have z0 := (hY ⟨xb, 0, none⟩ (by show xb < _; omega) (by show xb ≠ gb; omega) (m4.1) (m4.2)).trans d0;have z1 := (hY ⟨xb, 1, none⟩ (by show xb < _; omega) (by show xb ≠ gb; omega) (m4.1) (m4.2)).trans d1;have z2 := (hY ⟨xb, 2, none⟩ (by show xb < _; omega) (by show xb ≠ gb; omega) (m4.1) (m4.2)).trans d2;have z3 := (hY ⟨xb, 3, none⟩ (by show xb < _; omega) (by show xb ≠ gb; omega) (m4.1) (m4.2)).trans d3
    (try simp only [Act.put]); go_simp) ?_
   refine qaa (v := .pointer (some ⟨gb, 0, none⟩)) rfl rfl rfl (fun _ _ _ h => h) ⟨rfl, rfl⟩ (fun _ _ _ _ _ => rfl) (fun Y hY2 hY => by
    (try simp only [Act.put]); go_simp) ?_
   refine qaa (v := .pointer (some ⟨gb, 0, none⟩)) rfl rfl rfl (fun _ _ _ h => h) ⟨rfl, rfl⟩ (fun _ _ _ _ _ => rfl) (fun Y hY2 hY => by
    (try simp only [Act.put]); go_simp) ?_
   refine qaa (v := .pointer (some ⟨gb, 0, none⟩)) rfl rfl rfl (fun _ _ _ h => h) ⟨rfl, rfl⟩ (fun _ _ _ _ _ => rfl) (fun Y hY2 hY => by
    (try simp only [Act.put]); go_simp) ?_
   refine qaa (v := .pointer (some ⟨gb, 2, none⟩)) rfl rfl rfl (fun _ _ _ h => h) ⟨rfl, rfl⟩ (fun _ _ _ _ _ => rfl) (fun Y hY2 hY => by
    (try simp only [Act.put]); go_simp) ?_
   refine qaa (v := .slice PA its.length Pc) rfl rfl rfl (fun _ _ _ h => h) ⟨rfl, rfl⟩ (fun _ _ _ _ _ => rfl) (fun Y hY2 hY => by
    have z0 := hY2.1.trans c2
    (try simp only [Act.put]); go_simp) ?_
   refine qaa (v := .agg #[.int .i64 t.kind, .string t.name, .int .i64 t.sort, .slice T t.kids.length ct]) rfl rfl rfl (fun _ _ _ h => h) ⟨rfl, rfl⟩ (fun _ _ _ _ _ => rfl) (fun Y hY2 hY => by
    have z0 := (hY ⟨w.heap.size, 0, none⟩ (by show w.heap.size < _; omega) (by show w.heap.size ≠ gb; omega) (m2.1) (m2.2)).trans a0;have z1 := (hY ⟨w.heap.size, 1, none⟩ (by show w.heap.size < _; omega) (by show w.heap.size ≠ gb; omega) (m2.1) (m2.2)).trans a1;have z2 := (hY ⟨w.heap.size, 2, none⟩ (by show w.heap.size < _; omega) (by show w.heap.size ≠ gb; omega) (m2.1) (m2.2)).trans a2;have z3 := (hY ⟨w.heap.size, 3, none⟩ (by show w.heap.size < _; omega) (by show w.heap.size ≠ gb; omega) (m2.1) (m2.2)).trans a3
    (try simp only [Act.put]); go_simp) ?_
   refine qaa (v := .agg #[.int .i64 u.kind, .string u.name, .int .i64 u.sort, .slice U u.kids.length cu]) rfl rfl rfl (fun _ _ _ h => h) ⟨rfl, rfl⟩ (fun _ _ _ _ _ => rfl) (fun Y hY2 hY => by
    have z0 := (hY ⟨w.heap.size + 1, 0, none⟩ (by show w.heap.size + 1 < _; omega) (by show w.heap.size + 1 ≠ gb; omega) (m3.1) (m3.2)).trans b0;have z1 := (hY ⟨w.heap.size + 1, 1, none⟩ (by show w.heap.size + 1 < _; omega) (by show w.heap.size + 1 ≠ gb; omega) (m3.1) (m3.2)).trans b1;have z2 := (hY ⟨w.heap.size + 1, 2, none⟩ (by show w.heap.size + 1 < _; omega) (by show w.heap.size + 1 ≠ gb; omega) (m3.1) (m3.2)).trans b2;have z3 := (hY ⟨w.heap.size + 1, 3, none⟩ (by show w.heap.size + 1 < _; omega) (by show w.heap.size + 1 ≠ gb; omega) (m3.1) (m3.2)).trans b3
    (try simp only [Act.put]); go_simp) ?_
   refine qaa (v := .agg #[.int .i64 t.kind, .string t.name, .int .i64 t.sort, .slice T t.kids.length ct, .int .i64 u.kind, .string u.name, .int .i64 u.sort, .slice U u.kids.length cu]) rfl rfl rfl (fun _ _ _ h => h) ⟨rfl, rfl⟩ (fun _ _ _ _ _ => rfl) (fun Y hY2 hY => by
    (try simp only [Act.put]); go_simp) ?_
   refine qaa (v := .slice VA vts.length Vc) rfl rfl rfl (fun _ _ _ h => h) ⟨rfl, rfl⟩ (fun _ _ _ _ _ => rfl) (fun Y hY2 hY => by
    have z0 := hY2.2.trans c3
    (try simp only [Act.put]); go_simp) ?_
   simp only [Act.put, List.setIfInBounds_toArray];clear a0 a1 a2 a3 b0 b1 b2 b3 c0 c1 c2 c3 d0 d1 d2 d3;have hG0 := HG0.out;refine qbg ?_ ?_
   ·skip
    refine qab rfl rfl (fun K hK => ?_);go_wp2_with fail
    obtain ⟨W1, hM⟩ : ∃ M, M = D.alloc (.cells #[.int .i64 t.kind, .string t.name, .int .i64 t.sort, .slice T t.kids.length ct, .int .i64 u.kind, .string u.name, .int .i64 u.sort, .slice U u.kids.length cu] 53) := ⟨_, rfl⟩;have hbc : Below D.heap.size D W1 := by rw [hM]; exact qaf (Nat.le_refl _) _
    have hsz1 : D.heap.size < W1.heap.size := by rw [hM]; simp
    have hz8 : W1.heap[D.heap.size]? = some (.cells (bCells [((t, T, ct), (u, U, cu))]).toArray 53 (0, 0)) := by rw [hM]; exact heap_alloc_new _ _
    rw [← hM];clear hM;have hG1 := hG0.alloc hgD hbc;refine ⟨⟨fun _ => ⟨World.cell?_of_block (hG1.same gb hgD m1.1 m1.2), World.cell?_of_block (hG1.same gb hgD m1.1 m1.2)⟩, fun p hp _ h1 h2 => World.cell?_of_block (hG1.same _ hp h1 h2)⟩, ?_⟩;clear hbc;refine qbg ?_ ?_
    ·skip
     obtain ⟨g9, c9, W2, hap1, hG2, hk2, hsz2⟩ := hG1.push1 hgD (by omega) ((t, T, ct), (u, U, cu)) (D.heap.size) hz8 (RepP.mono (fun _ h => h) (fun p (hp : p.block < B) => (hG1.bel.cell (by omega)).trans (HOD.out.bel.cell (by omega))) _ _ _ HRT.out) (RepP.mono (fun _ h => h) (fun p (hp : p.block < B) => (hG1.bel.cell (by omega)).trans (HOD.out.bel.cell (by omega))) _ _ _ HRU.out) (by omega);refine qab rfl rfl (fun K hK => ?_);refine qag (by rfl) (.tmp 78) (.tmp 82) (by rfl) (by rfl) (by rfl) hap1 ?_;refine hK _ _ ⟨⟨fun _ => ⟨World.cell?_of_block (hG2.same gb hgD m1.1 m1.2), World.cell?_of_block (hG2.same gb hgD m1.1 m1.2)⟩, fun p hp _ h1 h2 => World.cell?_of_block (hG2.same _ hp h1 h2)⟩, ?_⟩;clear hK K hap1;simp only [Act.put, List.setIfInBounds_toArray];refine qab rfl rfl (fun K hK => ?_);go_wp2_with fail
     obtain ⟨W3, hM⟩ : ∃ M, M = W2.alloc (.cells #[.int .i64 x.kind, .string x.name, .int .i64 x.sort, .slice none x.kids.length 0] 24) := ⟨_, rfl⟩;have hbc : Below W2.heap.size W2 W3 := by rw [hM]; exact qaf (Nat.le_refl _) _
     have hsz3 : W2.heap.size < W3.heap.size := by rw [hM]; simp
     have hz4 : W3.heap[W2.heap.size]? = some (boxT x none 0) := by rw [hM]; exact heap_alloc_new _ _
     rw [← hM];clear hM;have hG3 := hG2.alloc hgD hbc;refine ⟨⟨fun _ => ⟨World.cell?_of_block (hG3.same gb hgD m1.1 m1.2), World.cell?_of_block (hG3.same gb hgD m1.1 m1.2)⟩, fun p hp _ h1 h2 => World.cell?_of_block (hG3.same _ hp h1 h2)⟩, ?_⟩;clear hbc;obtain ⟨g8, c8, W4, hap2, hG4, hk4, hsz4⟩ := hG3.push2 hgD (by omega) x HXK.out HXN.out (W2.heap.size) hz4 hvl2;refine qab rfl rfl (fun K hK => ?_);refine qag (by rfl) (.tmp 87) (.tmp 89) (by rfl) (by rfl) (by rfl) hap2 ?_;refine hK _ _ ⟨⟨fun _ => ⟨World.cell?_of_block (hG4.same gb hgD m1.1 m1.2), World.cell?_of_block (hG4.same gb hgD m1.1 m1.2)⟩, fun p hp _ h1 h2 => World.cell?_of_block (hG4.same _ hp h1 h2)⟩, ?_⟩;clear hK K hap2;simp only [Act.put, List.setIfInBounds_toArray];have hgc := (hG4.same gb hgD m1.1 m1.2).trans HOD.out.gen.cell
     obtain ⟨c0, c1, c2, c3, cf⟩ := qad (show W4.heap[gb]? = some (.cells #[.map (some mb), .int .i64 ((F + 1 : Nat) : Int), .slice PA its.length Pc, .slice VA vts.length Vc] 73 (0, 0)) from hgc);have hfin := HOD.out.grown hBm hmb hgl (fun k e => (hnp k e).1) (fun k e => (hnv k e).1) hG4 (g' := addG N t u g) (by show qa9 N g.next + 1 = F + 1; rw [HFE.out]) (by rw [List.map_append]; show _ ++ [(t, u)] = _; rw [HOD.out.gen.pairs]; rfl) (by rw [List.map_append]; show _ ++ [x] = _; rw [HOD.out.gen.vars, ← HXV.out]; rfl) (fun y hy => by
      rcases List.mem_append.1 hy with hy | hy
      ·exact HOD.out.gen.leaf y hy
      ·rw [List.mem_singleton] at hy; subst hy; exact HXK.out)
     rw [List.length_append, List.length_append] at hfin;have hxw := (hG4.same xb hxD m4.1 m4.2).trans HX5.out;refine qab rfl rfl (fun K hK => ?_);go_wp2_with fail
     refine ⟨⟨fun _ => ⟨World.cell?_of_block (hG4.same gb hgD m1.1 m1.2), World.cell?_of_block (hG4.same gb hgD m1.1 m1.2)⟩, fun p hp hne h1 h2 => World.cell?_of_block (hG4.same _ hp h1 h2)⟩, ?_⟩;refine qab rfl rfl (fun K hK => ?_);go_wp2_with fail
     refine ⟨⟨fun _ => ⟨World.cell?_of_block (hG4.same gb hgD m1.1 m1.2), World.cell?_of_block (hG4.same gb hgD m1.1 m1.2)⟩, fun p hp hne h1 h2 => World.cell?_of_block (hG4.same _ hp h1 h2)⟩, ?_⟩;refine qab rfl rfl (fun K hK => ?_);go_wp2_with fail
     refine ⟨⟨fun h => absurd h (by decide), fun p hp hne h1 h2 => (World.cell?_of_block (Below.heap_setCell _ _ _ _ hne)).trans (World.cell?_of_block (hG4.same _ hp h1 h2))⟩, ?_⟩;refine qab rfl rfl (fun K hK => ?_);go_wp2_with fail
     refine ⟨⟨fun h => absurd h (by decide), fun p hp hne h1 h2 => (World.cell?_of_block (Below.heap_setCell _ _ _ _ hne)).trans (World.cell?_of_block (hG4.same _ hp h1 h2))⟩, ?_⟩;refine qab rfl rfl (fun K hK => ?_);go_wp2_with fail
     refine ⟨⟨fun h => absurd h (by decide), fun p hp hne h1 h2 => (World.cell?_of_block (Below.heap_setCell _ _ _ _ hne)).trans (World.cell?_of_block (hG4.same _ hp h1 h2))⟩, ?_⟩;refine qab rfl rfl (fun K hK => ?_);go_wp2_with fail
     refine ⟨⟨fun h => absurd h (by decide), fun p hp hne h1 h2 => (World.cell?_of_block (Below.heap_setCell _ _ _ _ hne)).trans ((World.cell?_of_block (Below.heap_setCell _ _ _ _ hne)).trans (World.cell?_of_block (hG4.same _ hp h1 h2)))⟩, qap ?_⟩;clear c0 c1 c2 c3 cf;obtain ⟨WF, hWF⟩ : ∃ WF, WF = (W4.setCell ⟨gb, 2, none⟩ (.slice (some ⟨g9, 0, none⟩) (its.length + 1) c9)).setCell ⟨gb, 3, none⟩ (.slice (some ⟨g8, 0, none⟩) (vts.length + 1) c8) := ⟨_, rfl⟩;have hfin : OAt gb mb nn B N (addG N t u g) PA VA w (boxT t T ct) (boxT u U cu) (some ⟨g9, 0, none⟩) c9 (some ⟨g8, 0, none⟩) c8 (its ++ [((t, T, ct), (u, U, cu))]) (vts ++ [(x, none, 0)]) WF := by rw [hWF]; exact hfin
     have hxF : WF.heap[xb]? = some (boxT x none 0) := by
      rw [hWF, Below.heap_setCell _ _ _ _ (by show xb ≠ gb; omega), Below.heap_setCell _ _ _ _ (by show xb ≠ gb; omega)];exact hxw
     rw [← hWF];clear hWF;obtain ⟨d0, d1, d2, d3, -⟩ := qam x (hxF);obtain ⟨z0, z1, z2, z3, zf⟩ := qad hfin.b3;go_wp2_with fail
     refine bodyPost_ret (v := .agg #[.int .i64 x.kind, .string x.name, .int .i64 x.sort, .slice none x.kids.length 0]) ?_ rfl ?_
     ·simp [results, Tryz.results51, go_sem, z0, z1, z2, z3]
     have hres : res = (x, addG N t u g) := by rw [HR.out, HXV.out]
     have hrp : RepP WF (fun b => b < B ∨ (w.heap.size + 3 ≤ b ∧ b < WF.heap.size ∧ ownA (some ⟨g9, 0, none⟩) ≠ some b ∧ ownA (some ⟨g8, 0, none⟩) ≠ some b)) x none 0 := by
      clear hfin hxF hxw hres HXV HX5 HR;obtain ⟨x1, x2, x3, x4⟩ := x;have hx4 : x4 = [] := HXK.out;subst hx4;rw [qa7];exact ⟨HXN.out, Nat.le_refl _, Nat.zero_le _, .inl rfl⟩
     have hat := hfin.give hB hgl hmb (fun k e => (hnp k e).1) (fun k e => (hnv k e).1) hrp;refine ⟨none, 0, some ⟨g9, 0, none⟩, c9, some ⟨g8, 0, none⟩, c8, its ++ [((t, T, ct), (u, U, cu))], vts ++ [(x, none, 0)], by rw [hres]; rfl, ?_⟩;rw [hres];exact hat
    ·skip
     refine qab rfl rfl (fun K hK => ?_);go_wp2_with fail
     obtain ⟨W2, hM⟩ : ∃ M, M = W1.alloc (.cells #[.int .i64 x.kind, .string x.name, .int .i64 x.sort, .slice none x.kids.length 0] 24) := ⟨_, rfl⟩;have hbc : Below W1.heap.size W1 W2 := by rw [hM]; exact qaf (Nat.le_refl _) _
     have hsz2 : W1.heap.size < W2.heap.size := by rw [hM]; simp
     have hz4 : W2.heap[W1.heap.size]? = some (boxT x none 0) := by rw [hM]; exact heap_alloc_new _ _
     rw [← hM];clear hM;have hG2 := hG1.alloc hgD hbc;refine ⟨⟨fun _ => ⟨World.cell?_of_block (hG2.same gb hgD m1.1 m1.2), World.cell?_of_block (hG2.same gb hgD m1.1 m1.2)⟩, fun p hp _ h1 h2 => World.cell?_of_block (hG2.same _ hp h1 h2)⟩, ?_⟩;have hz8 := (hbc.block _ (Array.getElem?_eq_some_iff.1 hz8).1).trans hz8;clear hbc;obtain ⟨g9, c9, W3, hap1, hG3, hk3, hsz3⟩ := hG2.push1 hgD (by omega) ((t, T, ct), (u, U, cu)) (D.heap.size) hz8 (RepP.mono (fun _ h => h) (fun p (hp : p.block < B) => (hG2.bel.cell (by omega)).trans (HOD.out.bel.cell (by omega))) _ _ _ HRT.out) (RepP.mono (fun _ h => h) (fun p (hp : p.block < B) => (hG2.bel.cell (by omega)).trans (HOD.out.bel.cell (by omega))) _ _ _ HRU.out) (by omega);refine qab rfl rfl (fun K hK => ?_);refine qag (by rfl) (.tmp 78) (.tmp 82) (by rfl) (by rfl) (by rfl) hap1 ?_
     refine hK _ _ ⟨⟨fun _ => ⟨World.cell?_of_block (hG3.same gb hgD m1.1 m1.2), World.cell?_of_block (hG3.same gb hgD m1.1 m1.2)⟩, fun p hp _ h1 h2 => World.cell?_of_block (hG3.same _ hp h1 h2)⟩, ?_⟩;clear hK K hap1;simp only [Act.put, List.setIfInBounds_toArray];have hz4 := (hk3 _ (Array.getElem?_eq_some_iff.1 hz4).1 (fun e => by have := hnp _ e; omega)).trans hz4;obtain ⟨g8, c8, W4, hap2, hG4, hk4, hsz4⟩ := hG3.push2 hgD (by omega) x HXK.out HXN.out (W1.heap.size) hz4 hvl2;refine qab rfl rfl (fun K hK => ?_);refine qag (by rfl) (.tmp 87) (.tmp 89) (by rfl) (by rfl) (by rfl) hap2 ?_;refine hK _ _ ⟨⟨fun _ => ⟨World.cell?_of_block (hG4.same gb hgD m1.1 m1.2), World.cell?_of_block (hG4.same gb hgD m1.1 m1.2)⟩, fun p hp _ h1 h2 => World.cell?_of_block (hG4.same _ hp h1 h2)⟩, ?_⟩;clear hK K hap2;simp only [Act.put]
     have hgc := (hG4.same gb hgD m1.1 m1.2).trans HOD.out.gen.cell;obtain ⟨c0, c1, c2, c3, cf⟩ := qad (show W4.heap[gb]? = some (.cells #[.map (some mb), .int .i64 ((F + 1 : Nat) : Int), .slice PA its.length Pc, .slice VA vts.length Vc] 73 (0, 0)) from hgc);have hfin := HOD.out.grown hBm hmb hgl (fun k e => (hnp k e).1) (fun k e => (hnv k e).1) hG4 (g' := addG N t u g) (by show qa9 N g.next + 1 = F + 1; rw [HFE.out]) (by rw [List.map_append]; show _ ++ [(t, u)] = _; rw [HOD.out.gen.pairs]; rfl) (by rw [List.map_append]; show _ ++ [x] = _; rw [HOD.out.gen.vars, ← HXV.out]; rfl) (fun y hy => by
      rcases List.mem_append.1 hy with hy | hy
      ·exact HOD.out.gen.leaf y hy
      ·rw [List.mem_singleton] at hy; subst hy; exact HXK.out)
     rw [List.length_append, List.length_append] at hfin;have hxw := (hG4.same xb hxD m4.1 m4.2).trans HX5.out;refine qab rfl rfl (fun K hK => ?_);go_wp2_with fail
     refine ⟨⟨fun _ => ⟨World.cell?_of_block (hG4.same gb hgD m1.1 m1.2), World.cell?_of_block (hG4.same gb hgD m1.1 m1.2)⟩, fun p hp hne h1 h2 => World.cell?_of_block (hG4.same _ hp h1 h2)⟩, ?_⟩;refine qab rfl rfl (fun K hK => ?_);go_wp2_with fail
     refine ⟨⟨fun _ => ⟨World.cell?_of_block (hG4.same gb hgD m1.1 m1.2), World.cell?_of_block (hG4.same gb hgD m1.1 m1.2)⟩, fun p hp hne h1 h2 => World.cell?_of_block (hG4.same _ hp h1 h2)⟩, ?_⟩;refine qab rfl rfl (fun K hK => ?_);go_wp2_with fail
     refine ⟨⟨fun h => absurd h (by decide), fun p hp hne h1 h2 => (World.cell?_of_block (Below.heap_setCell _ _ _ _ hne)).trans (World.cell?_of_block (hG4.same _ hp h1 h2))⟩, ?_⟩;refine qab rfl rfl (fun K hK => ?_);go_wp2_with fail
     refine ⟨⟨fun h => absurd h (by decide), fun p hp hne h1 h2 => (World.cell?_of_block (Below.heap_setCell _ _ _ _ hne)).trans (World.cell?_of_block (hG4.same _ hp h1 h2))⟩, ?_⟩;refine qab rfl rfl (fun K hK => ?_);go_wp2_with fail
     refine ⟨⟨fun h => absurd h (by decide), fun p hp hne h1 h2 => (World.cell?_of_block (Below.heap_setCell _ _ _ _ hne)).trans (World.cell?_of_block (hG4.same _ hp h1 h2))⟩, ?_⟩;refine qab rfl rfl (fun K hK => ?_);go_wp2_with fail
     refine ⟨⟨fun h => absurd h (by decide), fun p hp hne h1 h2 => (World.cell?_of_block (Below.heap_setCell _ _ _ _ hne)).trans ((World.cell?_of_block (Below.heap_setCell _ _ _ _ hne)).trans (World.cell?_of_block (hG4.same _ hp h1 h2)))⟩, qap ?_⟩;clear c0 c1 c2 c3 cf;obtain ⟨WF, hWF⟩ : ∃ WF, WF = (W4.setCell ⟨gb, 2, none⟩ (.slice (some ⟨g9, 0, none⟩) (its.length + 1) c9)).setCell ⟨gb, 3, none⟩ (.slice (some ⟨g8, 0, none⟩) (vts.length + 1) c8) := ⟨_, rfl⟩;have hfin : OAt gb mb nn B N (addG N t u g) PA VA w (boxT t T ct) (boxT u U cu) (some ⟨g9, 0, none⟩) c9 (some ⟨g8, 0, none⟩) c8 (its ++ [((t, T, ct), (u, U, cu))]) (vts ++ [(x, none, 0)]) WF := by rw [hWF]; exact hfin
     have hxF : WF.heap[xb]? = some (boxT x none 0) := by
      rw [hWF, Below.heap_setCell _ _ _ _ (by show xb ≠ gb; omega), Below.heap_setCell _ _ _ _ (by show xb ≠ gb; omega)];exact hxw
     rw [← hWF];clear hWF;obtain ⟨d0, d1, d2, d3, -⟩ := qam x (hxF);obtain ⟨z0, z1, z2, z3, zf⟩ := qad hfin.b3;go_wp2_with fail
     refine bodyPost_ret (v := .agg #[.int .i64 x.kind, .string x.name, .int .i64 x.sort, .slice none x.kids.length 0]) ?_ rfl ?_
     ·simp [results, Tryz.results51, go_sem, z0, z1, z2, z3]
     have hres : res = (x, addG N t u g) := by rw [HR.out, HXV.out]
     have hrp : RepP WF (fun b => b < B ∨ (w.heap.size + 3 ≤ b ∧ b < WF.heap.size ∧ ownA (some ⟨g9, 0, none⟩) ≠ some b ∧ ownA (some ⟨g8, 0, none⟩) ≠ some b)) x none 0 := by
      clear hfin hxF hxw hres HXV HX5 HR;obtain ⟨x1, x2, x3, x4⟩ := x;have hx4 : x4 = [] := HXK.out;subst hx4;rw [qa7];exact ⟨HXN.out, Nat.le_refl _, Nat.zero_le _, .inl rfl⟩
     have hat := hfin.give hB hgl hmb (fun k e => (hnp k e).1) (fun k e => (hnv k e).1) hrp;refine ⟨none, 0, some ⟨g9, 0, none⟩, c9, some ⟨g8, 0, none⟩, c8, its ++ [((t, T, ct), (u, U, cu))], vts ++ [(x, none, 0)], by rw [hres]; rfl, ?_⟩;rw [hres];exact hat
   ·skip
    refine qab rfl rfl (fun K hK => ?_);go_wp2_with fail
    obtain ⟨W1, hM⟩ : ∃ M, M = D.alloc (.cells #[.int .i64 x.kind, .string x.name, .int .i64 x.sort, .slice none x.kids.length 0] 24) := ⟨_, rfl⟩;have hbc : Below D.heap.size D W1 := by rw [hM]; exact qaf (Nat.le_refl _) _
    have hsz1 : D.heap.size < W1.heap.size := by rw [hM]; simp
    have hz4 : W1.heap[D.heap.size]? = some (boxT x none 0) := by rw [hM]; exact heap_alloc_new _ _
    rw [← hM];clear hM;have hG1 := hG0.alloc hgD hbc;refine ⟨⟨fun _ => ⟨World.cell?_of_block (hG1.same gb hgD m1.1 m1.2), World.cell?_of_block (hG1.same gb hgD m1.1 m1.2)⟩, fun p hp _ h1 h2 => World.cell?_of_block (hG1.same _ hp h1 h2)⟩, ?_⟩;clear hbc;refine qab rfl rfl (fun K hK => ?_);go_wp2_with fail
    obtain ⟨W2, hM⟩ : ∃ M, M = W1.alloc (.cells #[.int .i64 t.kind, .string t.name, .int .i64 t.sort, .slice T t.kids.length ct, .int .i64 u.kind, .string u.name, .int .i64 u.sort, .slice U u.kids.length cu] 53) := ⟨_, rfl⟩;have hbc : Below W1.heap.size W1 W2 := by rw [hM]; exact qaf (Nat.le_refl _) _
    have hsz2 : W1.heap.size < W2.heap.size := by rw [hM]; simp
    have hz8 : W2.heap[W1.heap.size]? = some (.cells (bCells [((t, T, ct), (u, U, cu))]).toArray 53 (0, 0)) := by rw [hM]; exact heap_alloc_new _ _
    rw [← hM];clear hM;have hG2 := hG1.alloc hgD hbc;refine ⟨⟨fun _ => ⟨World.cell?_of_block (hG2.same gb hgD m1.1 m1.2), World.cell?_of_block (hG2.same gb hgD m1.1 m1.2)⟩, fun p hp _ h1 h2 => World.cell?_of_block (hG2.same _ hp h1 h2)⟩, ?_⟩;have hz4 := (hbc.block _ (Array.getElem?_eq_some_iff.1 hz4).1).trans hz4;clear hbc;obtain ⟨g9, c9, W3, hap1, hG3, hk3, hsz3⟩ := hG2.push1 hgD (by omega) ((t, T, ct), (u, U, cu)) (W1.heap.size) hz8 (RepP.mono (fun _ h => h) (fun p (hp : p.block < B) => (hG2.bel.cell (by omega)).trans (HOD.out.bel.cell (by omega))) _ _ _ HRT.out) (RepP.mono (fun _ h => h) (fun p (hp : p.block < B) => (hG2.bel.cell (by omega)).trans (HOD.out.bel.cell (by omega))) _ _ _ HRU.out) (by omega);refine qab rfl rfl (fun K hK => ?_);refine qag (by rfl) (.tmp 78) (.tmp 82) (by rfl) (by rfl) (by rfl) hap1 ?_
    refine hK _ _ ⟨⟨fun _ => ⟨World.cell?_of_block (hG3.same gb hgD m1.1 m1.2), World.cell?_of_block (hG3.same gb hgD m1.1 m1.2)⟩, fun p hp _ h1 h2 => World.cell?_of_block (hG3.same _ hp h1 h2)⟩, ?_⟩;clear hK K hap1;simp only [Act.put, List.setIfInBounds_toArray];have hz4 := (hk3 _ (Array.getElem?_eq_some_iff.1 hz4).1 (fun e => by have := hnp _ e; omega)).trans hz4;obtain ⟨g8, c8, W4, hap2, hG4, hk4, hsz4⟩ := hG3.push2 hgD (by omega) x HXK.out HXN.out (D.heap.size) hz4 hvl2;refine qab rfl rfl (fun K hK => ?_);refine qag (by rfl) (.tmp 87) (.tmp 89) (by rfl) (by rfl) (by rfl) hap2 ?_;refine hK _ _ ⟨⟨fun _ => ⟨World.cell?_of_block (hG4.same gb hgD m1.1 m1.2), World.cell?_of_block (hG4.same gb hgD m1.1 m1.2)⟩, fun p hp _ h1 h2 => World.cell?_of_block (hG4.same _ hp h1 h2)⟩, ?_⟩;clear hK K hap2;simp only [Act.put]
    have hgc := (hG4.same gb hgD m1.1 m1.2).trans HOD.out.gen.cell;obtain ⟨c0, c1, c2, c3, cf⟩ := qad (show W4.heap[gb]? = some (.cells #[.map (some mb), .int .i64 ((F + 1 : Nat) : Int), .slice PA its.length Pc, .slice VA vts.length Vc] 73 (0, 0)) from hgc);have hfin := HOD.out.grown hBm hmb hgl (fun k e => (hnp k e).1) (fun k e => (hnv k e).1) hG4 (g' := addG N t u g) (by show qa9 N g.next + 1 = F + 1; rw [HFE.out]) (by rw [List.map_append]; show _ ++ [(t, u)] = _; rw [HOD.out.gen.pairs]; rfl) (by rw [List.map_append]; show _ ++ [x] = _; rw [HOD.out.gen.vars, ← HXV.out]; rfl) (fun y hy => by
     rcases List.mem_append.1 hy with hy | hy
     ·exact HOD.out.gen.leaf y hy
     ·rw [List.mem_singleton] at hy; subst hy; exact HXK.out)
    rw [List.length_append, List.length_append] at hfin;have hxw := (hG4.same xb hxD m4.1 m4.2).trans HX5.out;refine qab rfl rfl (fun K hK => ?_);go_wp2_with fail
    refine ⟨⟨fun _ => ⟨World.cell?_of_block (hG4.same gb hgD m1.1 m1.2), World.cell?_of_block (hG4.same gb hgD m1.1 m1.2)⟩, fun p hp hne h1 h2 => World.cell?_of_block (hG4.same _ hp h1 h2)⟩, ?_⟩;refine qab rfl rfl (fun K hK => ?_);go_wp2_with fail
    refine ⟨⟨fun _ => ⟨World.cell?_of_block (hG4.same gb hgD m1.1 m1.2), World.cell?_of_block (hG4.same gb hgD m1.1 m1.2)⟩, fun p hp hne h1 h2 => World.cell?_of_block (hG4.same _ hp h1 h2)⟩, ?_⟩;refine qab rfl rfl (fun K hK => ?_);go_wp2_with fail
    refine ⟨⟨fun h => absurd h (by decide), fun p hp hne h1 h2 => (World.cell?_of_block (Below.heap_setCell _ _ _ _ hne)).trans (World.cell?_of_block (hG4.same _ hp h1 h2))⟩, ?_⟩;refine qab rfl rfl (fun K hK => ?_);go_wp2_with fail
    refine ⟨⟨fun h => absurd h (by decide), fun p hp hne h1 h2 => (World.cell?_of_block (Below.heap_setCell _ _ _ _ hne)).trans (World.cell?_of_block (hG4.same _ hp h1 h2))⟩, ?_⟩;refine qab rfl rfl (fun K hK => ?_);go_wp2_with fail
    refine ⟨⟨fun h => absurd h (by decide), fun p hp hne h1 h2 => (World.cell?_of_block (Below.heap_setCell _ _ _ _ hne)).trans (World.cell?_of_block (hG4.same _ hp h1 h2))⟩, ?_⟩;refine qab rfl rfl (fun K hK => ?_);go_wp2_with fail
    refine ⟨⟨fun h => absurd h (by decide), fun p hp hne h1 h2 => (World.cell?_of_block (Below.heap_setCell _ _ _ _ hne)).trans ((World.cell?_of_block (Below.heap_setCell _ _ _ _ hne)).trans (World.cell?_of_block (hG4.same _ hp h1 h2)))⟩, qap ?_⟩;clear c0 c1 c2 c3 cf;obtain ⟨WF, hWF⟩ : ∃ WF, WF = (W4.setCell ⟨gb, 2, none⟩ (.slice (some ⟨g9, 0, none⟩) (its.length + 1) c9)).setCell ⟨gb, 3, none⟩ (.slice (some ⟨g8, 0, none⟩) (vts.length + 1) c8) := ⟨_, rfl⟩;have hfin : OAt gb mb nn B N (addG N t u g) PA VA w (boxT t T ct) (boxT u U cu) (some ⟨g9, 0, none⟩) c9 (some ⟨g8, 0, none⟩) c8 (its ++ [((t, T, ct), (u, U, cu))]) (vts ++ [(x, none, 0)]) WF := by rw [hWF]; exact hfin
    have hxF : WF.heap[xb]? = some (boxT x none 0) := by
     rw [hWF, Below.heap_setCell _ _ _ _ (by show xb ≠ gb; omega), Below.heap_setCell _ _ _ _ (by show xb ≠ gb; omega)];exact hxw
    rw [← hWF];clear hWF;obtain ⟨d0, d1, d2, d3, -⟩ := qam x (hxF);obtain ⟨z0, z1, z2, z3, zf⟩ := qad hfin.b3;go_wp2_with fail
    refine bodyPost_ret (v := .agg #[.int .i64 x.kind, .string x.name, .int .i64 x.sort, .slice none x.kids.length 0]) ?_ rfl ?_
    ·simp [results, Tryz.results51, go_sem, z0, z1, z2, z3]
    have hres : res = (x, addG N t u g) := by rw [HR.out, HXV.out]
    have hrp : RepP WF (fun b => b < B ∨ (w.heap.size + 3 ≤ b ∧ b < WF.heap.size ∧ ownA (some ⟨g9, 0, none⟩) ≠ some b ∧ ownA (some ⟨g8, 0, none⟩) ≠ some b)) x none 0 := by
     clear hfin hxF hxw hres HXV HX5 HR;obtain ⟨x1, x2, x3, x4⟩ := x;have hx4 : x4 = [] := HXK.out;subst hx4;rw [qa7];exact ⟨HXN.out, Nat.le_refl _, Nat.zero_le _, .inl rfl⟩
    have hat := hfin.give hB hgl hmb (fun k e => (hnp k e).1) (fun k e => (hnv k e).1) hrp;refine ⟨none, 0, some ⟨g9, 0, none⟩, c9, some ⟨g8, 0, none⟩, c8, its ++ [((t, T, ct), (u, U, cu))], vts ++ [(x, none, 0)], by rw [hres]; rfl, ?_⟩;rw [hres];exact hat
  ·skip
   have hxv : newG N t u g = .mk 1 (qax F) 0 [] := by unfold newG; rw [if_neg s0, hF]
   have S0 := Lib.hid s0; clear s0;have FR := qjv gb mb nn N g.next (.slice PA its.length Pc) (.slice VA vts.length Vc) 0 w0 w3 M HI (HW0.out.trans (HO3.out.bel.mono hg0)) hg0 (by rw [← hF]; exact hFM) hM HO3.out.gen.cell (by omega) HO3.out.gen.set;rw [← hF] at FR;obtain ⟨x, hx⟩ : ∃ x, x = Tm.mk 1 (qax F) 0 [] := ⟨_, rfl⟩;rw [← hx] at FR hxv;have hxk : x.kids = [] := by rw [hx]; rfl
   have hxn : x.name.size ≤ maxLen := by rw [hx]; show (qax F).size ≤ maxLen; unfold maxLen; omega
   have hkx : x.kind = 1 := by rw [hx]; rfl
   clear hx hkx;simp only [Tm.val] at FR;have FR := Lib.hid FR;have HXK := Lib.hid hxk; clear hxk;have HXN := Lib.hid hxn; clear hxn;have HXV := Lib.hid hxv; clear hxv;have HFE := Lib.hid hF; clear hF;go_wp2_with fail
   refine FR.out.mono ?_; clear FR c0 c1 c2 c3 cf; clear a0 a1 a2 a3 af b0 b1 b2 b3 bf z0 z1 z2 z3 zf;rintro e w4 ⟨rfl, hfr⟩;have HO4 := Lib.hid (HO3.out.freshed hBm hmb hgl hfr); clear hfr HO3;obtain ⟨W5, hW5⟩ : ∃ W5, W5 = w4.alloc (boxT x none 0) := ⟨_, rfl⟩;have hb5 : Below w4.heap.size w4 W5 := by rw [hW5]; exact qaf (Nat.le_refl _) _
   have hx5 : W5.heap[w4.heap.size]? = some (boxT x none 0) := by rw [hW5]; exact heap_alloc_new _ _
   have hs5 : w4.heap.size < W5.heap.size := by rw [hW5]; simp
   have HOD : Hid (OAt gb mb nn B N { g with next := F + 1 } PA VA w (boxT t T ct) (boxT u U cu) PA Pc VA Vc its vts W5.drew) := (HO4.out.go hb5).go (Below.refl _ _).drew;have HX5 : Hid (W5.drew.heap[w4.heap.size]? = some (boxT x none 0)) := hx5;have hxbw : w.heap.size + 3 ≤ w4.heap.size := HO4.out.lt;simp only [boxT] at hW5;have HW5 := Lib.hid hW5; clear hW5 hx5 hb5 HO4;obtain ⟨xb, hxb⟩ : ∃ xb, xb = w4.heap.size := ⟨_, rfl⟩;go_wp2_with fail
   rw [← HW5.out, ← hxb];rw [← hxb] at HX5 hs5 hxbw;have HSD : Hid (W5.drew.heap.size = W5.heap.size) := rfl;clear hxb;have hnp : ∀ k, ownA PA = some k → k < w.heap.size ∧ gb < k := fun k e => by have := HGEN.out.own1 k e; omega
   have hnv : ∀ k, ownA VA = some k → k < w.heap.size ∧ gb < k := fun k e => by have := HGEN.out.own2 k e; omega
   have hxb4 : w.heap.size + 3 ≤ xb := hxbw;have m1 : ownA PA ≠ some gb ∧ ownA VA ≠ some gb := ⟨fun e => by have := hnp _ e; omega, fun e => by have := hnv _ e; omega⟩;have m2 : ownA PA ≠ some w.heap.size ∧ ownA VA ≠ some w.heap.size := ⟨fun e => by have := hnp _ e; omega, fun e => by have := hnv _ e; omega⟩;have m3 : ownA PA ≠ some (w.heap.size + 1) ∧ ownA VA ≠ some (w.heap.size + 1) := ⟨fun e => by have := hnp _ e; omega, fun e => by have := hnv _ e; omega⟩;have m4 : ownA PA ≠ some xb ∧ ownA VA ≠ some xb := ⟨fun e => by have := hnp _ e; omega, fun e => by have := hnv _ e; omega⟩;have hG0 : Grown2 gb B PA VA W5.drew PA Pc VA Vc its vts W5.drew := ⟨fun _ _ _ _ => rfl, Nat.le_refl _, Below.refl _ _, HOD.out.gen.row, HOD.out.gen.vrow, fun k e => .inl e, fun k e => .inl e, HOD.out.gen.apart⟩;obtain ⟨a0, a1, a2, a3, -⟩ := qam t (HOD.out.b1)
   obtain ⟨b0, b1, b2, b3, -⟩ := qam u (HOD.out.b2);obtain ⟨c0, c1, c2, c3, -⟩ := qad (show W5.drew.heap[gb]? = some (.cells #[.map (some mb), .int .i64 ((F + 1 : Nat) : Int), .slice PA its.length Pc, .slice VA vts.length Vc] 73 (0, 0)) from HOD.out.gen.cell);obtain ⟨d0, d1, d2, d3, -⟩ := qam x (HX5.out);have hgD := HOD.out.gen.lt;have hlD := HOD.out.lt;have hxD : xb < W5.drew.heap.size := (Array.getElem?_eq_some_iff.1 HX5.out).1;have HG0 := Lib.hid hG0; clear hG0
   refine qal (fun Y => Y.cell? ⟨gb, 2, none⟩ = W5.drew.cell? ⟨gb, 2, none⟩ ∧ Y.cell? ⟨gb, 3, none⟩ = W5.drew.cell? ⟨gb, 3, none⟩) (fun Y => ∀ p : Addr, p.block < W5.drew.heap.size → p.block ≠ gb → ownA PA ≠ some p.block → ownA VA ≠ some p.block → Y.cell? p = W5.drew.cell? p) [1, 11, 12, 13, 15, 20, 21, 22, 23] (.held 1 (.held 11 (.held 12 (.held 13 (.held 15 (.held 0 (.held 2 (.held 3 (.held 4 (.held 5 (.held 6 (.held 7 (.held 8 (.held 14 (.two 9 16 (.two 10 16 (.op 16 (.op 17 (.op 18 (.op 19 (.op 20 (.op 21 (.op 22 (.op 23 .nil)))))))) (.op 10 (.op 17 (.op 18 (.op 19 (.op 20 (.op 21 (.op 22 (.op 23 .nil))))))))) (.op 9 (.op 10 (.op 17 (.op 18 (.op 19 (.op 20 (.op 21 (.op 22 (.op 23 .nil)))))))))))))))))))))))) mixed (by kernel_rfl) ?_;generalize W5.drew = D at *
   refine qaz (v := .pointer (some ⟨gb, 0, none⟩)) rfl rfl rfl (fun _ _ _ h => h) (fun _ _ _ _ _ => rfl) (fun Y hY => by
    (try simp only [Act.put]); go_simp) ?_
   refine qaz (v := .pointer (some ⟨gb, 0, none⟩)) rfl rfl rfl (fun _ _ _ h => h) (fun _ _ _ _ _ => rfl) (fun Y hY => by
    (try simp only [Act.put]); go_simp) ?_
   refine qaz (v := .pointer (some ⟨gb, 0, none⟩)) rfl rfl rfl (fun _ _ _ h => h) (fun _ _ _ _ _ => rfl) (fun Y hY => by
    (try simp only [Act.put]); go_simp) ?_
   refine qaz (v := .pointer (some ⟨gb, 3, none⟩)) rfl rfl rfl (fun _ _ _ h => h) (fun _ _ _ _ _ => rfl) (fun Y hY => by
    (try simp only [Act.put]); go_simp) ?_
   refine qaz (v := .agg #[.int .i64 x.kind, .string x.name, .int .i64 x.sort, .slice none x.kids.length 0]) rfl rfl rfl (fun _ _ _ h => h) (fun _ _ _ _ _ => rfl) (fun Y hY => by
    have z0 := (hY ⟨xb, 0, none⟩ (by show xb < _; omega) (by show xb ≠ gb; omega) (m4.1) (m4.2)).trans d0;have z1 := (hY ⟨xb, 1, none⟩ (by show xb < _; omega) (by show xb ≠ gb; omega) (m4.1) (m4.2)).trans d1;have z2 := (hY ⟨xb, 2, none⟩ (by show xb < _; omega) (by show xb ≠ gb; omega) (m4.1) (m4.2)).trans d2;have z3 := (hY ⟨xb, 3, none⟩ (by show xb < _; omega) (by show xb ≠ gb; omega) (m4.1) (m4.2)).trans d3
    (try simp only [Act.put]); go_simp) ?_
   refine qaa (v := .pointer (some ⟨gb, 0, none⟩)) rfl rfl rfl (fun _ _ _ h => h) ⟨rfl, rfl⟩ (fun _ _ _ _ _ => rfl) (fun Y hY2 hY => by
    (try simp only [Act.put]); go_simp) ?_
   refine qaa (v := .pointer (some ⟨gb, 0, none⟩)) rfl rfl rfl (fun _ _ _ h => h) ⟨rfl, rfl⟩ (fun _ _ _ _ _ => rfl) (fun Y hY2 hY => by
    (try simp only [Act.put]); go_simp) ?_
   refine qaa (v := .pointer (some ⟨gb, 0, none⟩)) rfl rfl rfl (fun _ _ _ h => h) ⟨rfl, rfl⟩ (fun _ _ _ _ _ => rfl) (fun Y hY2 hY => by
    (try simp only [Act.put]); go_simp) ?_
   refine qaa (v := .pointer (some ⟨gb, 2, none⟩)) rfl rfl rfl (fun _ _ _ h => h) ⟨rfl, rfl⟩ (fun _ _ _ _ _ => rfl) (fun Y hY2 hY => by
    (try simp only [Act.put]); go_simp) ?_
   refine qaa (v := .slice PA its.length Pc) rfl rfl rfl (fun _ _ _ h => h) ⟨rfl, rfl⟩ (fun _ _ _ _ _ => rfl) (fun Y hY2 hY => by
    have z0 := hY2.1.trans c2
    (try simp only [Act.put]); go_simp) ?_
   refine qaa (v := .agg #[.int .i64 t.kind, .string t.name, .int .i64 t.sort, .slice T t.kids.length ct]) rfl rfl rfl (fun _ _ _ h => h) ⟨rfl, rfl⟩ (fun _ _ _ _ _ => rfl) (fun Y hY2 hY => by
    have z0 := (hY ⟨w.heap.size, 0, none⟩ (by show w.heap.size < _; omega) (by show w.heap.size ≠ gb; omega) (m2.1) (m2.2)).trans a0;have z1 := (hY ⟨w.heap.size, 1, none⟩ (by show w.heap.size < _; omega) (by show w.heap.size ≠ gb; omega) (m2.1) (m2.2)).trans a1;have z2 := (hY ⟨w.heap.size, 2, none⟩ (by show w.heap.size < _; omega) (by show w.heap.size ≠ gb; omega) (m2.1) (m2.2)).trans a2;have z3 := (hY ⟨w.heap.size, 3, none⟩ (by show w.heap.size < _; omega) (by show w.heap.size ≠ gb; omega) (m2.1) (m2.2)).trans a3
    (try simp only [Act.put]); go_simp) ?_
   refine qaa (v := .agg #[.int .i64 u.kind, .string u.name, .int .i64 u.sort, .slice U u.kids.length cu]) rfl rfl rfl (fun _ _ _ h => h) ⟨rfl, rfl⟩ (fun _ _ _ _ _ => rfl) (fun Y hY2 hY => by
    have z0 := (hY ⟨w.heap.size + 1, 0, none⟩ (by show w.heap.size + 1 < _; omega) (by show w.heap.size + 1 ≠ gb; omega) (m3.1) (m3.2)).trans b0;have z1 := (hY ⟨w.heap.size + 1, 1, none⟩ (by show w.heap.size + 1 < _; omega) (by show w.heap.size + 1 ≠ gb; omega) (m3.1) (m3.2)).trans b1;have z2 := (hY ⟨w.heap.size + 1, 2, none⟩ (by show w.heap.size + 1 < _; omega) (by show w.heap.size + 1 ≠ gb; omega) (m3.1) (m3.2)).trans b2;have z3 := (hY ⟨w.heap.size + 1, 3, none⟩ (by show w.heap.size + 1 < _; omega) (by show w.heap.size + 1 ≠ gb; omega) (m3.1) (m3.2)).trans b3
    (try simp only [Act.put]); go_simp) ?_
   refine qaa (v := .agg #[.int .i64 t.kind, .string t.name, .int .i64 t.sort, .slice T t.kids.length ct, .int .i64 u.kind, .string u.name, .int .i64 u.sort, .slice U u.kids.length cu]) rfl rfl rfl (fun _ _ _ h => h) ⟨rfl, rfl⟩ (fun _ _ _ _ _ => rfl) (fun Y hY2 hY => by
    (try simp only [Act.put]); go_simp) ?_
   refine qaa (v := .slice VA vts.length Vc) rfl rfl rfl (fun _ _ _ h => h) ⟨rfl, rfl⟩ (fun _ _ _ _ _ => rfl) (fun Y hY2 hY => by
    have z0 := hY2.2.trans c3
    (try simp only [Act.put]); go_simp) ?_
   simp only [Act.put, List.setIfInBounds_toArray];clear a0 a1 a2 a3 b0 b1 b2 b3 c0 c1 c2 c3 d0 d1 d2 d3;have hG0 := HG0.out;refine qbg ?_ ?_
   ·skip
    refine qab rfl rfl (fun K hK => ?_);go_wp2_with fail
    obtain ⟨W1, hM⟩ : ∃ M, M = D.alloc (.cells #[.int .i64 t.kind, .string t.name, .int .i64 t.sort, .slice T t.kids.length ct, .int .i64 u.kind, .string u.name, .int .i64 u.sort, .slice U u.kids.length cu] 53) := ⟨_, rfl⟩;have hbc : Below D.heap.size D W1 := by rw [hM]; exact qaf (Nat.le_refl _) _
    have hsz1 : D.heap.size < W1.heap.size := by rw [hM]; simp
    have hz8 : W1.heap[D.heap.size]? = some (.cells (bCells [((t, T, ct), (u, U, cu))]).toArray 53 (0, 0)) := by rw [hM]; exact heap_alloc_new _ _
    rw [← hM];clear hM;have hG1 := hG0.alloc hgD hbc;refine ⟨⟨fun _ => ⟨World.cell?_of_block (hG1.same gb hgD m1.1 m1.2), World.cell?_of_block (hG1.same gb hgD m1.1 m1.2)⟩, fun p hp _ h1 h2 => World.cell?_of_block (hG1.same _ hp h1 h2)⟩, ?_⟩;clear hbc;refine qbg ?_ ?_
    ·skip
     obtain ⟨g9, c9, W2, hap1, hG2, hk2, hsz2⟩ := hG1.push1 hgD (by omega) ((t, T, ct), (u, U, cu)) (D.heap.size) hz8 (RepP.mono (fun _ h => h) (fun p (hp : p.block < B) => (hG1.bel.cell (by omega)).trans (HOD.out.bel.cell (by omega))) _ _ _ HRT.out) (RepP.mono (fun _ h => h) (fun p (hp : p.block < B) => (hG1.bel.cell (by omega)).trans (HOD.out.bel.cell (by omega))) _ _ _ HRU.out) (by omega);refine qab rfl rfl (fun K hK => ?_);refine qag (by rfl) (.tmp 78) (.tmp 82) (by rfl) (by rfl) (by rfl) hap1 ?_;refine hK _ _ ⟨⟨fun _ => ⟨World.cell?_of_block (hG2.same gb hgD m1.1 m1.2), World.cell?_of_block (hG2.same gb hgD m1.1 m1.2)⟩, fun p hp _ h1 h2 => World.cell?_of_block (hG2.same _ hp h1 h2)⟩, ?_⟩;clear hK K hap1;simp only [Act.put, List.setIfInBounds_toArray];refine qab rfl rfl (fun K hK => ?_);go_wp2_with fail
     obtain ⟨W3, hM⟩ : ∃ M, M = W2.alloc (.cells #[.int .i64 x.kind, .string x.name, .int .i64 x.sort, .slice none x.kids.length 0] 24) := ⟨_, rfl⟩;have hbc : Below W2.heap.size W2 W3 := by rw [hM]; exact qaf (Nat.le_refl _) _
     have hsz3 : W2.heap.size < W3.heap.size := by rw [hM]; simp
     have hz4 : W3.heap[W2.heap.size]? = some (boxT x none 0) := by rw [hM]; exact heap_alloc_new _ _
     rw [← hM];clear hM;have hG3 := hG2.alloc hgD hbc;refine ⟨⟨fun _ => ⟨World.cell?_of_block (hG3.same gb hgD m1.1 m1.2), World.cell?_of_block (hG3.same gb hgD m1.1 m1.2)⟩, fun p hp _ h1 h2 => World.cell?_of_block (hG3.same _ hp h1 h2)⟩, ?_⟩;clear hbc;obtain ⟨g8, c8, W4, hap2, hG4, hk4, hsz4⟩ := hG3.push2 hgD (by omega) x HXK.out HXN.out (W2.heap.size) hz4 hvl2;refine qab rfl rfl (fun K hK => ?_);refine qag (by rfl) (.tmp 87) (.tmp 89) (by rfl) (by rfl) (by rfl) hap2 ?_;refine hK _ _ ⟨⟨fun _ => ⟨World.cell?_of_block (hG4.same gb hgD m1.1 m1.2), World.cell?_of_block (hG4.same gb hgD m1.1 m1.2)⟩, fun p hp _ h1 h2 => World.cell?_of_block (hG4.same _ hp h1 h2)⟩, ?_⟩;clear hK K hap2;simp only [Act.put, List.setIfInBounds_toArray];have hgc := (hG4.same gb hgD m1.1 m1.2).trans HOD.out.gen.cell
     obtain ⟨c0, c1, c2, c3, cf⟩ := qad (show W4.heap[gb]? = some (.cells #[.map (some mb), .int .i64 ((F + 1 : Nat) : Int), .slice PA its.length Pc, .slice VA vts.length Vc] 73 (0, 0)) from hgc);have hfin := HOD.out.grown hBm hmb hgl (fun k e => (hnp k e).1) (fun k e => (hnv k e).1) hG4 (g' := addG N t u g) (by show qa9 N g.next + 1 = F + 1; rw [HFE.out]) (by rw [List.map_append]; show _ ++ [(t, u)] = _; rw [HOD.out.gen.pairs]; rfl) (by rw [List.map_append]; show _ ++ [x] = _; rw [HOD.out.gen.vars, ← HXV.out]; rfl) (fun y hy => by
      rcases List.mem_append.1 hy with hy | hy
      ·exact HOD.out.gen.leaf y hy
      ·rw [List.mem_singleton] at hy; subst hy; exact HXK.out)
     rw [List.length_append, List.length_append] at hfin;have hxw := (hG4.same xb hxD m4.1 m4.2).trans HX5.out;refine qab rfl rfl (fun K hK => ?_);go_wp2_with fail
     refine ⟨⟨fun _ => ⟨World.cell?_of_block (hG4.same gb hgD m1.1 m1.2), World.cell?_of_block (hG4.same gb hgD m1.1 m1.2)⟩, fun p hp hne h1 h2 => World.cell?_of_block (hG4.same _ hp h1 h2)⟩, ?_⟩;refine qab rfl rfl (fun K hK => ?_);go_wp2_with fail
     refine ⟨⟨fun _ => ⟨World.cell?_of_block (hG4.same gb hgD m1.1 m1.2), World.cell?_of_block (hG4.same gb hgD m1.1 m1.2)⟩, fun p hp hne h1 h2 => World.cell?_of_block (hG4.same _ hp h1 h2)⟩, ?_⟩;refine qab rfl rfl (fun K hK => ?_);go_wp2_with fail
     refine ⟨⟨fun h => absurd h (by decide), fun p hp hne h1 h2 => (World.cell?_of_block (Below.heap_setCell _ _ _ _ hne)).trans (World.cell?_of_block (hG4.same _ hp h1 h2))⟩, ?_⟩;refine qab rfl rfl (fun K hK => ?_);go_wp2_with fail
     refine ⟨⟨fun h => absurd h (by decide), fun p hp hne h1 h2 => (World.cell?_of_block (Below.heap_setCell _ _ _ _ hne)).trans (World.cell?_of_block (hG4.same _ hp h1 h2))⟩, ?_⟩;refine qab rfl rfl (fun K hK => ?_);go_wp2_with fail
     refine ⟨⟨fun h => absurd h (by decide), fun p hp hne h1 h2 => (World.cell?_of_block (Below.heap_setCell _ _ _ _ hne)).trans (World.cell?_of_block (hG4.same _ hp h1 h2))⟩, ?_⟩;refine qab rfl rfl (fun K hK => ?_);go_wp2_with fail
     refine ⟨⟨fun h => absurd h (by decide), fun p hp hne h1 h2 => (World.cell?_of_block (Below.heap_setCell _ _ _ _ hne)).trans ((World.cell?_of_block (Below.heap_setCell _ _ _ _ hne)).trans (World.cell?_of_block (hG4.same _ hp h1 h2)))⟩, qap ?_⟩;clear c0 c1 c2 c3 cf;obtain ⟨WF, hWF⟩ : ∃ WF, WF = (W4.setCell ⟨gb, 2, none⟩ (.slice (some ⟨g9, 0, none⟩) (its.length + 1) c9)).setCell ⟨gb, 3, none⟩ (.slice (some ⟨g8, 0, none⟩) (vts.length + 1) c8) := ⟨_, rfl⟩;have hfin : OAt gb mb nn B N (addG N t u g) PA VA w (boxT t T ct) (boxT u U cu) (some ⟨g9, 0, none⟩) c9 (some ⟨g8, 0, none⟩) c8 (its ++ [((t, T, ct), (u, U, cu))]) (vts ++ [(x, none, 0)]) WF := by rw [hWF]; exact hfin
     have hxF : WF.heap[xb]? = some (boxT x none 0) := by
      rw [hWF, Below.heap_setCell _ _ _ _ (by show xb ≠ gb; omega), Below.heap_setCell _ _ _ _ (by show xb ≠ gb; omega)];exact hxw
     rw [← hWF];clear hWF;obtain ⟨d0, d1, d2, d3, -⟩ := qam x (hxF);obtain ⟨z0, z1, z2, z3, zf⟩ := qad hfin.b3;go_wp2_with fail
     refine bodyPost_ret (v := .agg #[.int .i64 x.kind, .string x.name, .int .i64 x.sort, .slice none x.kids.length 0]) ?_ rfl ?_
     ·simp [results, Tryz.results51, go_sem, z0, z1, z2, z3]
     have hres : res = (x, addG N t u g) := by rw [HR.out, HXV.out]
     have hrp : RepP WF (fun b => b < B ∨ (w.heap.size + 3 ≤ b ∧ b < WF.heap.size ∧ ownA (some ⟨g9, 0, none⟩) ≠ some b ∧ ownA (some ⟨g8, 0, none⟩) ≠ some b)) x none 0 := by
      clear hfin hxF hxw hres HXV HX5 HR;obtain ⟨x1, x2, x3, x4⟩ := x;have hx4 : x4 = [] := HXK.out;subst hx4;rw [qa7];exact ⟨HXN.out, Nat.le_refl _, Nat.zero_le _, .inl rfl⟩
     have hat := hfin.give hB hgl hmb (fun k e => (hnp k e).1) (fun k e => (hnv k e).1) hrp;refine ⟨none, 0, some ⟨g9, 0, none⟩, c9, some ⟨g8, 0, none⟩, c8, its ++ [((t, T, ct), (u, U, cu))], vts ++ [(x, none, 0)], by rw [hres]; rfl, ?_⟩;rw [hres];exact hat
    ·skip
     refine qab rfl rfl (fun K hK => ?_);go_wp2_with fail
     obtain ⟨W2, hM⟩ : ∃ M, M = W1.alloc (.cells #[.int .i64 x.kind, .string x.name, .int .i64 x.sort, .slice none x.kids.length 0] 24) := ⟨_, rfl⟩;have hbc : Below W1.heap.size W1 W2 := by rw [hM]; exact qaf (Nat.le_refl _) _
     have hsz2 : W1.heap.size < W2.heap.size := by rw [hM]; simp
     have hz4 : W2.heap[W1.heap.size]? = some (boxT x none 0) := by rw [hM]; exact heap_alloc_new _ _
     rw [← hM];clear hM;have hG2 := hG1.alloc hgD hbc;refine ⟨⟨fun _ => ⟨World.cell?_of_block (hG2.same gb hgD m1.1 m1.2), World.cell?_of_block (hG2.same gb hgD m1.1 m1.2)⟩, fun p hp _ h1 h2 => World.cell?_of_block (hG2.same _ hp h1 h2)⟩, ?_⟩;have hz8 := (hbc.block _ (Array.getElem?_eq_some_iff.1 hz8).1).trans hz8;clear hbc;obtain ⟨g9, c9, W3, hap1, hG3, hk3, hsz3⟩ := hG2.push1 hgD (by omega) ((t, T, ct), (u, U, cu)) (D.heap.size) hz8 (RepP.mono (fun _ h => h) (fun p (hp : p.block < B) => (hG2.bel.cell (by omega)).trans (HOD.out.bel.cell (by omega))) _ _ _ HRT.out) (RepP.mono (fun _ h => h) (fun p (hp : p.block < B) => (hG2.bel.cell (by omega)).trans (HOD.out.bel.cell (by omega))) _ _ _ HRU.out) (by omega);refine qab rfl rfl (fun K hK => ?_);refine qag (by rfl) (.tmp 78) (.tmp 82) (by rfl) (by rfl) (by rfl) hap1 ?_
     refine hK _ _ ⟨⟨fun _ => ⟨World.cell?_of_block (hG3.same gb hgD m1.1 m1.2), World.cell?_of_block (hG3.same gb hgD m1.1 m1.2)⟩, fun p hp _ h1 h2 => World.cell?_of_block (hG3.same _ hp h1 h2)⟩, ?_⟩;clear hK K hap1;simp only [Act.put, List.setIfInBounds_toArray];have hz4 := (hk3 _ (Array.getElem?_eq_some_iff.1 hz4).1 (fun e => by have := hnp _ e; omega)).trans hz4;obtain ⟨g8, c8, W4, hap2, hG4, hk4, hsz4⟩ := hG3.push2 hgD (by omega) x HXK.out HXN.out (W1.heap.size) hz4 hvl2;refine qab rfl rfl (fun K hK => ?_);refine qag (by rfl) (.tmp 87) (.tmp 89) (by rfl) (by rfl) (by rfl) hap2 ?_;refine hK _ _ ⟨⟨fun _ => ⟨World.cell?_of_block (hG4.same gb hgD m1.1 m1.2), World.cell?_of_block (hG4.same gb hgD m1.1 m1.2)⟩, fun p hp _ h1 h2 => World.cell?_of_block (hG4.same _ hp h1 h2)⟩, ?_⟩;clear hK K hap2;simp only [Act.put]
     have hgc := (hG4.same gb hgD m1.1 m1.2).trans HOD.out.gen.cell;obtain ⟨c0, c1, c2, c3, cf⟩ := qad (show W4.heap[gb]? = some (.cells #[.map (some mb), .int .i64 ((F + 1 : Nat) : Int), .slice PA its.length Pc, .slice VA vts.length Vc] 73 (0, 0)) from hgc);have hfin := HOD.out.grown hBm hmb hgl (fun k e => (hnp k e).1) (fun k e => (hnv k e).1) hG4 (g' := addG N t u g) (by show qa9 N g.next + 1 = F + 1; rw [HFE.out]) (by rw [List.map_append]; show _ ++ [(t, u)] = _; rw [HOD.out.gen.pairs]; rfl) (by rw [List.map_append]; show _ ++ [x] = _; rw [HOD.out.gen.vars, ← HXV.out]; rfl) (fun y hy => by
      rcases List.mem_append.1 hy with hy | hy
      ·exact HOD.out.gen.leaf y hy
      ·rw [List.mem_singleton] at hy; subst hy; exact HXK.out)
     rw [List.length_append, List.length_append] at hfin;have hxw := (hG4.same xb hxD m4.1 m4.2).trans HX5.out;refine qab rfl rfl (fun K hK => ?_);go_wp2_with fail
     refine ⟨⟨fun _ => ⟨World.cell?_of_block (hG4.same gb hgD m1.1 m1.2), World.cell?_of_block (hG4.same gb hgD m1.1 m1.2)⟩, fun p hp hne h1 h2 => World.cell?_of_block (hG4.same _ hp h1 h2)⟩, ?_⟩;refine qab rfl rfl (fun K hK => ?_);go_wp2_with fail
     refine ⟨⟨fun _ => ⟨World.cell?_of_block (hG4.same gb hgD m1.1 m1.2), World.cell?_of_block (hG4.same gb hgD m1.1 m1.2)⟩, fun p hp hne h1 h2 => World.cell?_of_block (hG4.same _ hp h1 h2)⟩, ?_⟩;refine qab rfl rfl (fun K hK => ?_);go_wp2_with fail
     refine ⟨⟨fun h => absurd h (by decide), fun p hp hne h1 h2 => (World.cell?_of_block (Below.heap_setCell _ _ _ _ hne)).trans (World.cell?_of_block (hG4.same _ hp h1 h2))⟩, ?_⟩;refine qab rfl rfl (fun K hK => ?_);go_wp2_with fail
     refine ⟨⟨fun h => absurd h (by decide), fun p hp hne h1 h2 => (World.cell?_of_block (Below.heap_setCell _ _ _ _ hne)).trans (World.cell?_of_block (hG4.same _ hp h1 h2))⟩, ?_⟩;refine qab rfl rfl (fun K hK => ?_);go_wp2_with fail
     refine ⟨⟨fun h => absurd h (by decide), fun p hp hne h1 h2 => (World.cell?_of_block (Below.heap_setCell _ _ _ _ hne)).trans (World.cell?_of_block (hG4.same _ hp h1 h2))⟩, ?_⟩;refine qab rfl rfl (fun K hK => ?_);go_wp2_with fail
     refine ⟨⟨fun h => absurd h (by decide), fun p hp hne h1 h2 => (World.cell?_of_block (Below.heap_setCell _ _ _ _ hne)).trans ((World.cell?_of_block (Below.heap_setCell _ _ _ _ hne)).trans (World.cell?_of_block (hG4.same _ hp h1 h2)))⟩, qap ?_⟩;clear c0 c1 c2 c3 cf;obtain ⟨WF, hWF⟩ : ∃ WF, WF = (W4.setCell ⟨gb, 2, none⟩ (.slice (some ⟨g9, 0, none⟩) (its.length + 1) c9)).setCell ⟨gb, 3, none⟩ (.slice (some ⟨g8, 0, none⟩) (vts.length + 1) c8) := ⟨_, rfl⟩;have hfin : OAt gb mb nn B N (addG N t u g) PA VA w (boxT t T ct) (boxT u U cu) (some ⟨g9, 0, none⟩) c9 (some ⟨g8, 0, none⟩) c8 (its ++ [((t, T, ct), (u, U, cu))]) (vts ++ [(x, none, 0)]) WF := by rw [hWF]; exact hfin
     have hxF : WF.heap[xb]? = some (boxT x none 0) := by
      rw [hWF, Below.heap_setCell _ _ _ _ (by show xb ≠ gb; omega), Below.heap_setCell _ _ _ _ (by show xb ≠ gb; omega)];exact hxw
     rw [← hWF];clear hWF;obtain ⟨d0, d1, d2, d3, -⟩ := qam x (hxF);obtain ⟨z0, z1, z2, z3, zf⟩ := qad hfin.b3;go_wp2_with fail
     refine bodyPost_ret (v := .agg #[.int .i64 x.kind, .string x.name, .int .i64 x.sort, .slice none x.kids.length 0]) ?_ rfl ?_
     ·simp [results, Tryz.results51, go_sem, z0, z1, z2, z3]
     have hres : res = (x, addG N t u g) := by rw [HR.out, HXV.out]
     have hrp : RepP WF (fun b => b < B ∨ (w.heap.size + 3 ≤ b ∧ b < WF.heap.size ∧ ownA (some ⟨g9, 0, none⟩) ≠ some b ∧ ownA (some ⟨g8, 0, none⟩) ≠ some b)) x none 0 := by
      clear hfin hxF hxw hres HXV HX5 HR;obtain ⟨x1, x2, x3, x4⟩ := x;have hx4 : x4 = [] := HXK.out;subst hx4;rw [qa7];exact ⟨HXN.out, Nat.le_refl _, Nat.zero_le _, .inl rfl⟩
     have hat := hfin.give hB hgl hmb (fun k e => (hnp k e).1) (fun k e => (hnv k e).1) hrp;refine ⟨none, 0, some ⟨g9, 0, none⟩, c9, some ⟨g8, 0, none⟩, c8, its ++ [((t, T, ct), (u, U, cu))], vts ++ [(x, none, 0)], by rw [hres]; rfl, ?_⟩;rw [hres];exact hat
   ·skip
    refine qab rfl rfl (fun K hK => ?_);go_wp2_with fail
    obtain ⟨W1, hM⟩ : ∃ M, M = D.alloc (.cells #[.int .i64 x.kind, .string x.name, .int .i64 x.sort, .slice none x.kids.length 0] 24) := ⟨_, rfl⟩;have hbc : Below D.heap.size D W1 := by rw [hM]; exact qaf (Nat.le_refl _) _
    have hsz1 : D.heap.size < W1.heap.size := by rw [hM]; simp
    have hz4 : W1.heap[D.heap.size]? = some (boxT x none 0) := by rw [hM]; exact heap_alloc_new _ _
    rw [← hM];clear hM;have hG1 := hG0.alloc hgD hbc;refine ⟨⟨fun _ => ⟨World.cell?_of_block (hG1.same gb hgD m1.1 m1.2), World.cell?_of_block (hG1.same gb hgD m1.1 m1.2)⟩, fun p hp _ h1 h2 => World.cell?_of_block (hG1.same _ hp h1 h2)⟩, ?_⟩;clear hbc;refine qab rfl rfl (fun K hK => ?_);go_wp2_with fail
    obtain ⟨W2, hM⟩ : ∃ M, M = W1.alloc (.cells #[.int .i64 t.kind, .string t.name, .int .i64 t.sort, .slice T t.kids.length ct, .int .i64 u.kind, .string u.name, .int .i64 u.sort, .slice U u.kids.length cu] 53) := ⟨_, rfl⟩;have hbc : Below W1.heap.size W1 W2 := by rw [hM]; exact qaf (Nat.le_refl _) _
    have hsz2 : W1.heap.size < W2.heap.size := by rw [hM]; simp
    have hz8 : W2.heap[W1.heap.size]? = some (.cells (bCells [((t, T, ct), (u, U, cu))]).toArray 53 (0, 0)) := by rw [hM]; exact heap_alloc_new _ _
    rw [← hM];clear hM;have hG2 := hG1.alloc hgD hbc;refine ⟨⟨fun _ => ⟨World.cell?_of_block (hG2.same gb hgD m1.1 m1.2), World.cell?_of_block (hG2.same gb hgD m1.1 m1.2)⟩, fun p hp _ h1 h2 => World.cell?_of_block (hG2.same _ hp h1 h2)⟩, ?_⟩;have hz4 := (hbc.block _ (Array.getElem?_eq_some_iff.1 hz4).1).trans hz4;clear hbc;obtain ⟨g9, c9, W3, hap1, hG3, hk3, hsz3⟩ := hG2.push1 hgD (by omega) ((t, T, ct), (u, U, cu)) (W1.heap.size) hz8 (RepP.mono (fun _ h => h) (fun p (hp : p.block < B) => (hG2.bel.cell (by omega)).trans (HOD.out.bel.cell (by omega))) _ _ _ HRT.out) (RepP.mono (fun _ h => h) (fun p (hp : p.block < B) => (hG2.bel.cell (by omega)).trans (HOD.out.bel.cell (by omega))) _ _ _ HRU.out) (by omega);refine qab rfl rfl (fun K hK => ?_);refine qag (by rfl) (.tmp 78) (.tmp 82) (by rfl) (by rfl) (by rfl) hap1 ?_
    refine hK _ _ ⟨⟨fun _ => ⟨World.cell?_of_block (hG3.same gb hgD m1.1 m1.2), World.cell?_of_block (hG3.same gb hgD m1.1 m1.2)⟩, fun p hp _ h1 h2 => World.cell?_of_block (hG3.same _ hp h1 h2)⟩, ?_⟩;clear hK K hap1;simp only [Act.put, List.setIfInBounds_toArray];have hz4 := (hk3 _ (Array.getElem?_eq_some_iff.1 hz4).1 (fun e => by have := hnp _ e; omega)).trans hz4;obtain ⟨g8, c8, W4, hap2, hG4, hk4, hsz4⟩ := hG3.push2 hgD (by omega) x HXK.out HXN.out (D.heap.size) hz4 hvl2;refine qab rfl rfl (fun K hK => ?_);refine qag (by rfl) (.tmp 87) (.tmp 89) (by rfl) (by rfl) (by rfl) hap2 ?_;refine hK _ _ ⟨⟨fun _ => ⟨World.cell?_of_block (hG4.same gb hgD m1.1 m1.2), World.cell?_of_block (hG4.same gb hgD m1.1 m1.2)⟩, fun p hp _ h1 h2 => World.cell?_of_block (hG4.same _ hp h1 h2)⟩, ?_⟩;clear hK K hap2;simp only [Act.put]
    have hgc := (hG4.same gb hgD m1.1 m1.2).trans HOD.out.gen.cell;obtain ⟨c0, c1, c2, c3, cf⟩ := qad (show W4.heap[gb]? = some (.cells #[.map (some mb), .int .i64 ((F + 1 : Nat) : Int), .slice PA its.length Pc, .slice VA vts.length Vc] 73 (0, 0)) from hgc);have hfin := HOD.out.grown hBm hmb hgl (fun k e => (hnp k e).1) (fun k e => (hnv k e).1) hG4 (g' := addG N t u g) (by show qa9 N g.next + 1 = F + 1; rw [HFE.out]) (by rw [List.map_append]; show _ ++ [(t, u)] = _; rw [HOD.out.gen.pairs]; rfl) (by rw [List.map_append]; show _ ++ [x] = _; rw [HOD.out.gen.vars, ← HXV.out]; rfl) (fun y hy => by
     rcases List.mem_append.1 hy with hy | hy
     ·exact HOD.out.gen.leaf y hy
     ·rw [List.mem_singleton] at hy; subst hy; exact HXK.out)
    rw [List.length_append, List.length_append] at hfin;have hxw := (hG4.same xb hxD m4.1 m4.2).trans HX5.out;refine qab rfl rfl (fun K hK => ?_);go_wp2_with fail
    refine ⟨⟨fun _ => ⟨World.cell?_of_block (hG4.same gb hgD m1.1 m1.2), World.cell?_of_block (hG4.same gb hgD m1.1 m1.2)⟩, fun p hp hne h1 h2 => World.cell?_of_block (hG4.same _ hp h1 h2)⟩, ?_⟩;refine qab rfl rfl (fun K hK => ?_);go_wp2_with fail
    refine ⟨⟨fun _ => ⟨World.cell?_of_block (hG4.same gb hgD m1.1 m1.2), World.cell?_of_block (hG4.same gb hgD m1.1 m1.2)⟩, fun p hp hne h1 h2 => World.cell?_of_block (hG4.same _ hp h1 h2)⟩, ?_⟩;refine qab rfl rfl (fun K hK => ?_);go_wp2_with fail
    refine ⟨⟨fun h => absurd h (by decide), fun p hp hne h1 h2 => (World.cell?_of_block (Below.heap_setCell _ _ _ _ hne)).trans (World.cell?_of_block (hG4.same _ hp h1 h2))⟩, ?_⟩;refine qab rfl rfl (fun K hK => ?_);go_wp2_with fail
    refine ⟨⟨fun h => absurd h (by decide), fun p hp hne h1 h2 => (World.cell?_of_block (Below.heap_setCell _ _ _ _ hne)).trans (World.cell?_of_block (hG4.same _ hp h1 h2))⟩, ?_⟩;refine qab rfl rfl (fun K hK => ?_);go_wp2_with fail
    refine ⟨⟨fun h => absurd h (by decide), fun p hp hne h1 h2 => (World.cell?_of_block (Below.heap_setCell _ _ _ _ hne)).trans (World.cell?_of_block (hG4.same _ hp h1 h2))⟩, ?_⟩;refine qab rfl rfl (fun K hK => ?_);go_wp2_with fail
    refine ⟨⟨fun h => absurd h (by decide), fun p hp hne h1 h2 => (World.cell?_of_block (Below.heap_setCell _ _ _ _ hne)).trans ((World.cell?_of_block (Below.heap_setCell _ _ _ _ hne)).trans (World.cell?_of_block (hG4.same _ hp h1 h2)))⟩, qap ?_⟩;clear c0 c1 c2 c3 cf;obtain ⟨WF, hWF⟩ : ∃ WF, WF = (W4.setCell ⟨gb, 2, none⟩ (.slice (some ⟨g9, 0, none⟩) (its.length + 1) c9)).setCell ⟨gb, 3, none⟩ (.slice (some ⟨g8, 0, none⟩) (vts.length + 1) c8) := ⟨_, rfl⟩;have hfin : OAt gb mb nn B N (addG N t u g) PA VA w (boxT t T ct) (boxT u U cu) (some ⟨g9, 0, none⟩) c9 (some ⟨g8, 0, none⟩) c8 (its ++ [((t, T, ct), (u, U, cu))]) (vts ++ [(x, none, 0)]) WF := by rw [hWF]; exact hfin
    have hxF : WF.heap[xb]? = some (boxT x none 0) := by
     rw [hWF, Below.heap_setCell _ _ _ _ (by show xb ≠ gb; omega), Below.heap_setCell _ _ _ _ (by show xb ≠ gb; omega)];exact hxw
    rw [← hWF];clear hWF;obtain ⟨d0, d1, d2, d3, -⟩ := qam x (hxF);obtain ⟨z0, z1, z2, z3, zf⟩ := qad hfin.b3;go_wp2_with fail
    refine bodyPost_ret (v := .agg #[.int .i64 x.kind, .string x.name, .int .i64 x.sort, .slice none x.kids.length 0]) ?_ rfl ?_
    ·simp [results, Tryz.results51, go_sem, z0, z1, z2, z3]
    have hres : res = (x, addG N t u g) := by rw [HR.out, HXV.out]
    have hrp : RepP WF (fun b => b < B ∨ (w.heap.size + 3 ≤ b ∧ b < WF.heap.size ∧ ownA (some ⟨g9, 0, none⟩) ≠ some b ∧ ownA (some ⟨g8, 0, none⟩) ≠ some b)) x none 0 := by
     clear hfin hxF hxw hres HXV HX5 HR;obtain ⟨x1, x2, x3, x4⟩ := x;have hx4 : x4 = [] := HXK.out;subst hx4;rw [qa7];exact ⟨HXN.out, Nat.le_refl _, Nat.zero_le _, .inl rfl⟩
    have hat := hfin.give hB hgl hmb (fun k e => (hnp k e).1) (fun k e => (hnv k e).1) hrp;refine ⟨none, 0, some ⟨g9, 0, none⟩, c9, some ⟨g8, 0, none⟩, c8, its ++ [((t, T, ct), (u, U, cu))], vts ++ [(x, none, 0)], by rw [hres]; rfl, ?_⟩;rw [hres];exact hat
end Go.Proofs.YtpjmdilpldaapaaGreatDoor
