/- Ufit (joined by shake.py). -/
import Derived.Test.YtpjmdilpldaapaaGreatDoorJ11
import Derived.Test.YtpjmdilpldaapaaGreatDoorJ12
import Derived.Test.YtpjmdilpldaapaaGreatDoorJ26
import Derived.Deep.CutRange
set_option maxRecDepth 100000
namespace Go.Proofs.YtpjmdilpldaapaaGreatDoor
open Go.RowKit Go.Sort
attribute [local irreducible] qa0
set_option linter.unusedSimpArgs false in
set_option linter.unusedVariables false in
set_option maxHeartbeats 8000000 in
theorem qkj (l : List Bd) (A0 : Option Addr) (cap0 : Nat) (w : World) (hl8 : l.length ≤ 8) (hsz : qfy l) (hrep : RepB w (fun b => b < w.heap.size) l A0 cap0) :
  Calls Tryz.prog 28 #[.slice A0 l.length cap0] w fun e w' => ∃ A c, e = .returned (.slice A (fitN l l.length).length c) ∧ RepB w' (fun b => b < w'.heap.size) (fitN l l.length) A c ∧ Below w.heap.size w w' := by
 have mixed : Tryz.prog.follows .mixedOrders = true := by kernel_rfl
 have HREP := Lib.hid hrep; have HSZ := Lib.hid hsz; clear hrep hsz;have hcc := HREP.out.1;have hcm := HREP.out.2.1;unfold maxLen at hcm;go_enter Tryz.func28, Tryz.ntmps28
 go_wp2_with fail
 go_loopw [3, 4] (fun v i wr => ∃ (k : Nat) (its : List IB), k ≤ l.length ∧ i = .int .i64 k ∧ Hid (RowG 48 wr w.heap.size (fun b => b < w.heap.size) v its) ∧ Hid (its.map IB.bd = fitN l k) ∧ Hid (Below w.heap.size w wr)) (fun _ i _ => l.length - (intOf i).toNat)
 case atStart => exact ⟨0, [], Nat.zero_le _, rfl, RowG.nil _ _ _ _, rfl, Below.refl _ _⟩
 case round =>
  obtain ⟨k, its, hk, rfl, HROW, HITS, HB⟩ := hrel;have i1 : (0 : Int) ≤ (k : Int) := Int.natCast_nonneg _;have hil : its.length ≤ k := by
   have h1 := congrArg List.length HITS.out;have h2 := qh4 l k;rw [List.length_map] at h1;omega
  obtain ⟨A3, c3, hv3, hrep3⟩ := HROW.out.toB (P := fun b => b < wr.heap.size) (fun b _ h _ => h) (fun b h => (HROW.out.lt b h).2);subst hv3;have HR3 := Lib.hid hrep3;have hc3 := hrep3.1;have hc3' := hrep3.2.1;unfold maxLen at hc3';rw [List.length_map] at hc3;clear hrep3;by_cases hlt : k < l.length
  ·have i2 : (k : Int) < (l.length : Int) := by omega
   rcases HREP.out.2.2 with h | ⟨kb, off, hA0, hbB, hl⟩
   ·rw [h] at hlt; simp at hlt
   subst hA0;have hlr : qal wr (fun b => b < w.heap.size) (flat l) kb off := qal.mono (fun _ h => h) (fun p hp => HB.out.cell hp) _ _ _ hbB hl;obtain ⟨Ax, cx, At, ct, h8⟩ := hlr.get8 k hlt;obtain ⟨a0, a1, a2, a3, b0, b1, b2, b3, r1, r2⟩ := h8;have hfs := qh3 l k hlt;obtain ⟨sx, st⟩ := HSZ.out l[k] (List.getElem_mem hlt);have hbd : l[k] = (l[k].1, l[k].2) := rfl;obtain ⟨x, hx⟩ : ∃ x, x = l[k].1 := ⟨_, rfl⟩;obtain ⟨t, ht⟩ : ∃ t, t = l[k].2 := ⟨_, rfl⟩;rw [← hx, ← ht] at hbd;rw [hbd] at hfs;rw [← hx] at a0 a1 a2 a3 r1 sx;rw [← ht] at b0 b1 b2 b3 r2 st;have hws := HB.out.size;obtain ⟨Z, hZ⟩ : ∃ Z, Z = wr.alloc (.cells #[.int .i64 x.kind, .string x.name, .int .i64 x.sort, .slice Ax x.kids.length cx, .int .i64 t.kind, .string t.name, .int .i64 t.sort, .slice At t.kids.length ct] 48) := ⟨_, rfl⟩
   have hbZ : Below wr.heap.size wr Z := by rw [hZ]; exact qaf (Nat.le_refl _) _
   have hzb : Z.heap[wr.heap.size]? = some (.cells #[.int .i64 x.kind, .string x.name, .int .i64 x.sort, .slice Ax x.kids.length cx, .int .i64 t.kind, .string t.name, .int .i64 t.sort, .slice At t.kids.length ct] 48 (0, 0)) := by rw [hZ]; exact heap_alloc_new _ _
   have HR1 : Hid (RepT Z Z.heap.size x Ax cx) := Lib.hid (RepP.mono (fun b (h : b < w.heap.size) => by show b < _; have := hbZ.size; omega) (fun p (hp : p.block < w.heap.size) => hbZ.cell (by omega)) _ _ _ r1);have HR2 : Hid (RepT Z Z.heap.size t At ct) := Lib.hid (RepP.mono (fun b (h : b < w.heap.size) => by show b < _; have := hbZ.size; omega) (fun p (hp : p.block < w.heap.size) => hbZ.cell (by omega)) _ _ _ r2);have HR1' := Lib.hid r1; have HR2' := Lib.hid r2;have HZ := Lib.hid hZ; have HBZ := Lib.hid hbZ; have HZB := Lib.hid hzb;have HFS := Lib.hid hfs;obtain ⟨ok, hok⟩ : ∃ ok, ok = (decide (x.kind = 1) && decide (x.valid = 0) && decide (t.valid = 0) && qfs x t) := ⟨_, rfl⟩;have HOK := Lib.hid hok;have HLT := Lib.hid (Array.getElem?_eq_some_iff.1 hzb).1;clear hlr hl r1 r2 hZ hbZ hzb hfs hok hx ht hbd;go_upto_region 6 with fail
   rw [← HZ.out];clear HZ a0 a1 a2 a3 b0 b1 b2 b3;go_cut [6] from 8 to 63 (fun v wq => v = .bool ok ∧ Hid (Below Z.heap.size Z wq))
   case first =>
    obtain ⟨y0, y1, y2, y3, y4, y5, y6, y7⟩ := qes HZB.out;rcases eq_facts x.kind 1 with ⟨e0, e1, n1⟩ | ⟨e0, e1, n1⟩
    case inr =>
     have hf : ok = false := by rw [HOK.out, decide_eq_false e0]; rfl
     clear HOK e0;go_wp2_with fail
     go_meet
     case rel => exact ⟨by rw [hf], Below.refl _ _⟩
    have HV1 := qdc x Ax cx Z (by omega) HR1.out;obtain ⟨v1, hv1⟩ : ∃ v, v = x.valid := ⟨_, rfl⟩;rw [← hv1] at HV1;simp only [Tm.val] at HV1;have HV1 := Lib.hid HV1;rw [← hv1] at HOK;have HE0 := Lib.hid e0;clear hv1 e0;go_wp2_with fail
    refine HV1.out.mono ?_; clear HV1 y0 y1 y2 y3 y4 y5 y6 y7;rintro e z1 ⟨rfl, hl1⟩;have HB1 := Lib.hid hl1.below;clear hl1;obtain ⟨y0, y1, y2, y3, y4, y5, y6, y7⟩ := qes ((HB1.out.block _ HLT.out).trans HZB.out);rcases eq_facts v1 0 with ⟨e2, e3, n3⟩ | ⟨e2, e3, n3⟩
    case inr =>
     have hf : ok = false := by rw [HOK.out, decide_eq_false e2]; simp
     clear HOK e2;go_wp2_with fail
     go_meet
     case rel => exact ⟨by rw [hf], HB1.out⟩
    have HV2 := qdc t At ct z1 (by omega) (HR2.out.go HB1.out HB1.out.size);obtain ⟨v2, hv2⟩ : ∃ v, v = t.valid := ⟨_, rfl⟩;rw [← hv2] at HV2;simp only [Tm.val] at HV2;have HV2 := Lib.hid HV2;rw [← hv2] at HOK;have HE2 := Lib.hid e2;clear hv2 e2;go_wp2_with fail
    refine HV2.out.mono ?_; clear HV2 y0 y1 y2 y3 y4 y5 y6 y7;rintro e z2 ⟨rfl, hl2⟩;have HB2 := Lib.hid (HB1.out.trans (hl2.below.mono HB1.out.size));clear hl2;obtain ⟨y0, y1, y2, y3, y4, y5, y6, y7⟩ := qes ((HB2.out.block _ HLT.out).trans HZB.out);rcases eq_facts v2 0 with ⟨e4, e5, n5⟩ | ⟨e4, e5, n5⟩
    case inr =>
     have hf : ok = false := by rw [HOK.out, decide_eq_false e4]; simp
     clear HOK e4;go_wp2_with fail
     go_meet
     case rel => exact ⟨by rw [hf], HB2.out⟩
    have HFT := qnt x t Ax At cx ct z2;have hf : ok = qfs x t := by rw [HOK.out, decide_eq_true HE0.out, decide_eq_true HE2.out, decide_eq_true e4]; rfl
    rw [← hf] at HFT;simp only [Tm.val] at HFT;have HFT := Lib.hid HFT;clear HOK e4 hf;go_wp2_with fail
    refine HFT.out.mono ?_; clear HFT y0 y1 y2 y3 y4 y5 y6 y7;rintro e z3 ⟨rfl, hl3⟩;have HB3 := Lib.hid (HB2.out.trans (hl3.below.mono HB2.out.size));clear hl3;go_wp2_with fail
    go_meet
    case rel => exact ⟨rfl, HB3.out⟩
   case rest =>
    obtain ⟨rfl, HBC⟩ := hcut;generalize wc = wx at *;have HBW := Lib.hid (HBZ.out.trans (HBC.out.mono HBZ.out.size));have HRO : Hid (RowG 48 wx w.heap.size (fun b => b < w.heap.size) (.slice A3 its.length c3) its) := Lib.hid (HROW.out.below HBW.out);have HRL : Hid (RepB wx (fun b => b < wx.heap.size) (its.map IB.bd) A3 c3) := Lib.hid (HR3.out.mono (fun b (h : b < wr.heap.size) => by show b < _; have := HBW.out.size; omega) (fun p hp => HBW.out.cell hp));have HYB : Hid (wx.heap[wr.heap.size]? = some (.cells #[.int .i64 x.kind, .string x.name, .int .i64 x.sort, .slice Ax x.kids.length cx, .int .i64 t.kind, .string t.name, .int .i64 t.sort, .slice At t.kids.length ct] 48 (0, 0))) := Lib.hid ((HBC.out.block _ HLT.out).trans HZB.out);have HX : Hid (RepT wx wx.heap.size x Ax cx) := Lib.hid (HR1.out.go HBC.out HBC.out.size)
    have HLX := Lib.hid (Array.getElem?_eq_some_iff.1 HYB.out).1;have HBX := Lib.hid (HB.out.trans (HBW.out.mono HB.out.size));have HSO : Hid (∀ b ∈ its.map IB.bd, b.1.size ≤ 1000000) := Lib.hid fun b hb => by rw [HITS.out] at hb; exact (HSZ.out b (qdk l k b hb).1).1
    clear HROW HR3 HR1 HR2 HZB HLT HBZ HBC HBW;generalize wr = wo at *;go_wp2_with fail
    go_loopw [6, 7] (fun v j wq => ∃ (m : Nat) (q : Bool), m ≤ its.length ∧ j = .int .i64 m ∧ v = .bool q ∧ Hid (q = (ok && ((its.map IB.bd).take m).all (fun o => !o.1.same x))) ∧ Hid (Below wx.heap.size wx wq)) (fun _ j _ => its.length - (intOf j).toNat)
    case atStart => exact ⟨0, ok, Nat.zero_le _, rfl, rfl, by show _ = _; simp, Below.refl _ _⟩
    case round =>
     obtain ⟨m, q, hm, rfl, rfl, HQ, HBQ⟩ := hrel;have j1 : (0 : Int) ≤ (m : Int) := Int.natCast_nonneg _;by_cases hltm : m < its.length
     ·have j2 : (m : Int) < (its.length : Int) := by omega
      have hmm : m < (its.map IB.bd).length := by rw [List.length_map]; exact hltm
      have hts : ((its.map IB.bd).take (m + 1)).all (fun o => !o.1.same x) = (((its.map IB.bd).take m).all (fun o => !o.1.same x) && !(its.map IB.bd)[m].1.same x) := by
       rw [List.take_succ_eq_append_getElem hmm, List.all_append]; simp
      have hso := HSO.out _ (List.getElem_mem hmm);rcases HRL.out.2.2 with h | ⟨ob, oo, hA3, hob, hol⟩
      ·rw [h] at hmm; simp at hmm
      subst hA3;obtain ⟨Ay, cy, Au, cu, h8⟩ := hol.get8 m hmm;obtain ⟨e0, e1, e2, e3, -, -, -, -, ry, -⟩ := h8;obtain ⟨y, hy⟩ : ∃ y, y = (its.map IB.bd)[m].1 := ⟨_, rfl⟩;rw [← hy] at e0 e1 e2 e3 ry hts hso;have HE : Hid (∀ Y, Below wx.heap.size wx Y → Y.cell? ⟨ob, oo + m * 8, none⟩ = some (.int .i64 y.kind) ∧ Y.cell? ⟨ob, oo + m * 8 + 1, none⟩ = some (.string y.name) ∧ Y.cell? ⟨ob, oo + m * 8 + 2, none⟩ = some (.int .i64 y.sort) ∧ Y.cell? ⟨ob, oo + m * 8 + 3, none⟩ = some (.slice Ay y.kids.length cy)) := Lib.hid fun Y hY =>
       ⟨(hY.cell hob).trans e0, (hY.cell hob).trans e1, (hY.cell hob).trans e2, (hY.cell hob).trans e3⟩
      have HRY := Lib.hid ry; have HTS := Lib.hid hts; have HSY := Lib.hid hso;obtain ⟨f0, f1, f2, f3⟩ := HE.out wr HBQ.out;clear hol e0 e1 e2 e3 ry hts hso hy
      cases q with
      | true =>
       go_wp2_with fail
       refine qam (fun _ => True) (fun Y => Below wr.drew.heap.size wr.drew Y) [] (.held 0 (.held 1 (.held 2 (.held 3 (.held 4 (.held 5 (.held 6 (.held 7 (.held 8 (.op 9 (.held 10 (.held 11 (.held 12 .nil))))))))))))) mixed (by kernel_rfl) ?_;have HED : Hid (∀ Y, Below wr.drew.heap.size wr.drew Y → Y.cell? ⟨ob, oo + m * 8, none⟩ = some (.int .i64 y.kind) ∧ Y.cell? ⟨ob, oo + m * 8 + 1, none⟩ = some (.string y.name) ∧ Y.cell? ⟨ob, oo + m * 8 + 2, none⟩ = some (.int .i64 y.sort) ∧ Y.cell? ⟨ob, oo + m * 8 + 3, none⟩ = some (.slice Ay y.kids.length cy)) := Lib.hid fun Y hY =>
        HE.out Y (HBQ.out.drew.trans (hY.mono HBQ.out.drew.size))
       have HBOX : Hid (∀ Y, Below wr.drew.heap.size wr.drew Y → Y.heap[wo.heap.size]? = some (.cells #[.int .i64 x.kind, .string x.name, .int .i64 x.sort, .slice Ax x.kids.length cx, .int .i64 t.kind, .string t.name, .int .i64 t.sort, .slice At t.kids.length ct] 48 (0, 0))) := Lib.hid fun Y hY =>
        (((HBQ.out.drew.trans (hY.mono HBQ.out.drew.size))).block _ HLX.out).trans HYB.out
       have HRYD : Hid (RepT wr.drew wr.drew.heap.size y Ay cy) := Lib.hid (RepP.mono (fun b (h : b < wx.heap.size) => by show b < _; have := HBQ.out.drew.size; omega) (fun p (hp : p.block < wx.heap.size) => HBQ.out.drew.cell hp) _ _ _ HRY.out);have HXD : Hid (RepT wr.drew wr.drew.heap.size x Ax cx) := Lib.hid (HX.out.go HBQ.out.drew HBQ.out.drew.size);have HBD := Lib.hid HBQ.out.drew;clear HE HRY HBQ f0 f1 f2 f3;generalize wr.drew = D at *;refine qaa (v := .bool true) rfl rfl rfl (fun _ _ _ h => h) trivial (Below.refl D.heap.size D) (fun Y _ hY => by
        (try simp only [Act.put]); go_simp) ?_
       refine qaa (v := .bool true) rfl rfl rfl (fun _ _ _ h => h) trivial (Below.refl D.heap.size D) (fun Y _ hY => by
        (try simp only [Act.put]); go_simp) ?_
       refine qby (v := .slice (some ⟨ob, oo, none⟩) its.length c3) rfl (by kernel_rfl) rfl (fun _ _ _ h => h) trivial (Below.refl D.heap.size D) (fun Y _ hY => by
        (try simp only [Act.put]); go_simp) ?_
       (try simp only [Act.put, List.setIfInBounds_toArray, List.set_cons_succ, List.set_cons_zero, List.getElem_toArray, List.getElem_cons_succ, List.getElem_cons_zero])
       refine qby (v := .int .i64 m) rfl (by kernel_rfl) rfl (fun _ _ _ h => h) trivial (Below.refl D.heap.size D) (fun Y _ hY => by
        (try simp only [Act.put]); go_simp) ?_
       (try simp only [Act.put, List.setIfInBounds_toArray, List.set_cons_succ, List.set_cons_zero, List.getElem_toArray, List.getElem_cons_succ, List.getElem_cons_zero])
       refine qby (v := .pointer (some ⟨ob, oo + m * 8, none⟩)) rfl (by kernel_rfl) rfl (fun _ _ _ h => h) trivial (Below.refl D.heap.size D) (fun Y _ hY => by
        (try simp only [Act.put]); go_simp) ?_
       (try simp only [Act.put, List.setIfInBounds_toArray, List.set_cons_succ, List.set_cons_zero, List.getElem_toArray, List.getElem_cons_succ, List.getElem_cons_zero])
       refine qby (v := .pointer (some ⟨ob, oo + m * 8, none⟩)) rfl (by kernel_rfl) rfl (fun _ _ _ h => h) trivial (Below.refl D.heap.size D) (fun Y _ hY => by
        (try simp only [Act.put]); go_simp) ?_
       (try simp only [Act.put, List.setIfInBounds_toArray, List.set_cons_succ, List.set_cons_zero, List.getElem_toArray, List.getElem_cons_succ, List.getElem_cons_zero])
       refine qby (v := .agg #[.int .i64 y.kind, .string y.name, .int .i64 y.sort, .slice Ay y.kids.length cy]) rfl (by kernel_rfl) rfl (fun _ _ _ h => h) trivial (Below.refl D.heap.size D) (fun Y _ hY => by
        obtain ⟨z0, z1, z2, z3⟩ := HED.out Y hY;clear hY
        (try simp only [Act.put]); go_simp) ?_
       (try simp only [Act.put, List.setIfInBounds_toArray, List.set_cons_succ, List.set_cons_zero, List.getElem_toArray, List.getElem_cons_succ, List.getElem_cons_zero])
       refine qby (v := .pointer (some ⟨wo.heap.size, 0, none⟩)) rfl (by kernel_rfl) rfl (fun _ _ _ h => h) trivial (Below.refl D.heap.size D) (fun Y _ hY => by
        (try simp only [Act.put]); go_simp) ?_
       (try simp only [Act.put, List.setIfInBounds_toArray, List.set_cons_succ, List.set_cons_zero, List.getElem_toArray, List.getElem_cons_succ, List.getElem_cons_zero])
       refine qby (v := .agg #[.int .i64 x.kind, .string x.name, .int .i64 x.sort, .slice Ax x.kids.length cx]) rfl (by kernel_rfl) rfl (fun _ _ _ h => h) trivial (Below.refl D.heap.size D) (fun Y _ hY => by
        obtain ⟨z0, z1, z2, z3, z4, z5, z6, z7⟩ := qes (HBOX.out Y hY);clear hY
        (try simp only [Act.put]); go_simp) ?_
       (try simp only [Act.put, List.setIfInBounds_toArray, List.set_cons_succ, List.set_cons_zero, List.getElem_toArray, List.getElem_cons_succ, List.getElem_cons_zero])
       (try simp only [Act.put, List.setIfInBounds_toArray, List.set_cons_succ, List.set_cons_zero, List.getElem_toArray, List.getElem_cons_succ, List.getElem_cons_zero])
       refine qbh rfl (by kernel_rfl) (fun K hK => ?_);have HCC := Lib.hid (qdr y x Ay Ax cy cx D HSY.out (by omega) (HRYD.out.go (Below.refl D.heap.size D) (Below.size (Below.refl D.heap.size D))) (HXD.out.go (Below.refl D.heap.size D) (Below.size (Below.refl D.heap.size D))))
       (try simp only [castV, Tm.val] at HCC)
       go_wp2_with fail
       refine HCC.out.mono ?_; clear HCC;rintro e y9 ⟨rfl, hb9⟩;have HB9 := Lib.hid (Below.trans (Below.refl D.heap.size D) (hb9.below.mono (Below.size (Below.refl D.heap.size D))));refine hK _ _ ⟨⟨fun _ => trivial, HB9.out⟩, ?_⟩;clear hK K;clear hb9;refine qby (v := .bool (!(y.same x))) rfl (by kernel_rfl) rfl (fun _ _ _ h => h) trivial HB9.out (fun Y _ hY => by
        (try simp only [Act.put]); go_simp) ?_
       (try simp only [Act.put, List.setIfInBounds_toArray, List.set_cons_succ, List.set_cons_zero, List.getElem_toArray, List.getElem_cons_succ, List.getElem_cons_zero])
       refine qaa (v := .bool (!(y.same x))) rfl rfl rfl (fun _ _ _ h => h) trivial HB9.out (fun Y _ hY => by
        (try simp only [Act.put]); go_simp) ?_
       refine qaa (v := .bool (!(y.same x))) rfl rfl rfl (fun _ _ _ h => h) trivial HB9.out (fun Y _ hY => by
        (try simp only [Act.put]); go_simp) ?_
       (try simp only [Act.put, List.setIfInBounds_toArray, List.set_cons_succ, List.set_cons_zero, List.getElem_toArray, List.getElem_cons_succ, List.getElem_cons_zero])
       (try simp only [Act.put, List.setIfInBounds_toArray, List.set_cons_succ, List.set_cons_zero, List.getElem_toArray, List.getElem_cons_succ, List.getElem_cons_zero])
       refine qao ?_;have HBF := Lib.hid (HBD.out.trans (Below.mono HB9.out HBD.out.size));go_wp2_with fail
       go_roundw
       case rel => exact ⟨m + 1, !(y.same x), by omega, by go_num, rfl, by show _ = _; rw [HTS.out, ← Bool.and_assoc, ← HQ.out]; rfl, HBF.out⟩
       case measure => simp [intOf]; omega
      | false =>
       go_wp2_with fail
       refine qam (fun _ => True) (fun Y => Below wr.drew.heap.size wr.drew Y) [] (.held 0 (.held 1 (.held 2 (.held 3 (.held 4 (.held 5 (.held 6 (.held 7 (.held 8 (.held 9 (.held 10 (.held 11 (.held 12 .nil))))))))))))) mixed (by kernel_rfl) ?_;have HED : Hid (∀ Y, Below wr.drew.heap.size wr.drew Y → Y.cell? ⟨ob, oo + m * 8, none⟩ = some (.int .i64 y.kind) ∧ Y.cell? ⟨ob, oo + m * 8 + 1, none⟩ = some (.string y.name) ∧ Y.cell? ⟨ob, oo + m * 8 + 2, none⟩ = some (.int .i64 y.sort) ∧ Y.cell? ⟨ob, oo + m * 8 + 3, none⟩ = some (.slice Ay y.kids.length cy)) := Lib.hid fun Y hY =>
        HE.out Y (HBQ.out.drew.trans (hY.mono HBQ.out.drew.size))
       have HBOX : Hid (∀ Y, Below wr.drew.heap.size wr.drew Y → Y.heap[wo.heap.size]? = some (.cells #[.int .i64 x.kind, .string x.name, .int .i64 x.sort, .slice Ax x.kids.length cx, .int .i64 t.kind, .string t.name, .int .i64 t.sort, .slice At t.kids.length ct] 48 (0, 0))) := Lib.hid fun Y hY =>
        (((HBQ.out.drew.trans (hY.mono HBQ.out.drew.size))).block _ HLX.out).trans HYB.out
       have HRYD : Hid (RepT wr.drew wr.drew.heap.size y Ay cy) := Lib.hid (RepP.mono (fun b (h : b < wx.heap.size) => by show b < _; have := HBQ.out.drew.size; omega) (fun p (hp : p.block < wx.heap.size) => HBQ.out.drew.cell hp) _ _ _ HRY.out);have HXD : Hid (RepT wr.drew wr.drew.heap.size x Ax cx) := Lib.hid (HX.out.go HBQ.out.drew HBQ.out.drew.size);have HBD := Lib.hid HBQ.out.drew;clear HE HRY HBQ f0 f1 f2 f3;generalize wr.drew = D at *;refine qaa (v := .bool false) rfl rfl rfl (fun _ _ _ h => h) trivial (Below.refl D.heap.size D) (fun Y _ hY => by
        (try simp only [Act.put]); go_simp) ?_
       refine qaa (v := .bool false) rfl rfl rfl (fun _ _ _ h => h) trivial (Below.refl D.heap.size D) (fun Y _ hY => by
        (try simp only [Act.put]); go_simp) ?_
       refine qc8 rfl (by kernel_rfl) rfl (fun _ _ _ h => h) trivial (Below.refl D.heap.size D) ?_
       (try simp only [Act.put, List.setIfInBounds_toArray, List.set_cons_succ, List.set_cons_zero, List.getElem_toArray, List.getElem_cons_succ, List.getElem_cons_zero])
       refine qc8 rfl (by kernel_rfl) rfl (fun _ _ _ h => h) trivial (Below.refl D.heap.size D) ?_
       (try simp only [Act.put, List.setIfInBounds_toArray, List.set_cons_succ, List.set_cons_zero, List.getElem_toArray, List.getElem_cons_succ, List.getElem_cons_zero])
       refine qc8 rfl (by kernel_rfl) rfl (fun _ _ _ h => h) trivial (Below.refl D.heap.size D) ?_
       (try simp only [Act.put, List.setIfInBounds_toArray, List.set_cons_succ, List.set_cons_zero, List.getElem_toArray, List.getElem_cons_succ, List.getElem_cons_zero])
       refine qc8 rfl (by kernel_rfl) rfl (fun _ _ _ h => h) trivial (Below.refl D.heap.size D) ?_
       (try simp only [Act.put, List.setIfInBounds_toArray, List.set_cons_succ, List.set_cons_zero, List.getElem_toArray, List.getElem_cons_succ, List.getElem_cons_zero])
       refine qc8 rfl (by kernel_rfl) rfl (fun _ _ _ h => h) trivial (Below.refl D.heap.size D) ?_
       (try simp only [Act.put, List.setIfInBounds_toArray, List.set_cons_succ, List.set_cons_zero, List.getElem_toArray, List.getElem_cons_succ, List.getElem_cons_zero])
       refine qc8 rfl (by kernel_rfl) rfl (fun _ _ _ h => h) trivial (Below.refl D.heap.size D) ?_
       (try simp only [Act.put, List.setIfInBounds_toArray, List.set_cons_succ, List.set_cons_zero, List.getElem_toArray, List.getElem_cons_succ, List.getElem_cons_zero])
       refine qc8 rfl (by kernel_rfl) rfl (fun _ _ _ h => h) trivial (Below.refl D.heap.size D) ?_
       (try simp only [Act.put, List.setIfInBounds_toArray, List.set_cons_succ, List.set_cons_zero, List.getElem_toArray, List.getElem_cons_succ, List.getElem_cons_zero])
       refine qc8 rfl (by kernel_rfl) rfl (fun _ _ _ h => h) trivial (Below.refl D.heap.size D) ?_
       (try simp only [Act.put, List.setIfInBounds_toArray, List.set_cons_succ, List.set_cons_zero, List.getElem_toArray, List.getElem_cons_succ, List.getElem_cons_zero])
       refine qc8 rfl (by kernel_rfl) rfl (fun _ _ _ h => h) trivial (Below.refl D.heap.size D) ?_
       (try simp only [Act.put, List.setIfInBounds_toArray, List.set_cons_succ, List.set_cons_zero, List.getElem_toArray, List.getElem_cons_succ, List.getElem_cons_zero])
       refine qaa (v := .bool false) rfl rfl rfl (fun _ _ _ h => h) trivial (Below.refl D.heap.size D) (fun Y _ hY => by
        (try simp only [Act.put]); go_simp) ?_
       (try simp only [Act.put, List.setIfInBounds_toArray, List.set_cons_succ, List.set_cons_zero, List.getElem_toArray, List.getElem_cons_succ, List.getElem_cons_zero])
       refine qaa (v := .bool false) rfl rfl rfl (fun _ _ _ h => h) trivial (Below.refl D.heap.size D) (fun Y _ hY => by
        (try simp only [Act.put]); go_simp) ?_
       (try simp only [Act.put, List.setIfInBounds_toArray, List.set_cons_succ, List.set_cons_zero, List.getElem_toArray, List.getElem_cons_succ, List.getElem_cons_zero])
       refine qao ?_;have HBF := Lib.hid (HBD.out.trans (Below.mono (Below.refl D.heap.size D) HBD.out.size));go_wp2_with fail
       go_roundw
       case rel => exact ⟨m + 1, false, by omega, by go_num, rfl, by show _ = _; rw [HTS.out, ← Bool.and_assoc, ← HQ.out]; rfl, HBF.out⟩
       case measure => simp [intOf]; omega
     ·obtain rfl : m = its.length := by omega
      have hq : q = takB (fitN l k) (x, t) := by
       rw [HQ.out, List.take_of_length_le (by rw [List.length_map]; omega), HOK.out, HITS.out];rfl
      have HBF := Lib.hid (HBX.out.trans (HBQ.out.mono HBX.out.size));have HRF := Lib.hid (HRO.out.below HBQ.out)
      cases q with
      | false =>
       have HN : Hid (its.map IB.bd = fitN l (k + 1)) := Lib.hid (by rw [HFS.out, fitF, if_neg (by rw [← hq]; simp)]; exact HITS.out);clear hq HQ;go_wp2_with fail
       go_roundw
       case rel => exact ⟨k + 1, its, by omega, by go_num, HRF.out, HN.out, HBF.out⟩
       case measure => simp [intOf]; omega
      | true =>
       have hn : (its ++ [((x, Ax, cx), (t, At, ct))]).map IB.bd = fitN l (k + 1) := by rw [HFS.out, fitF, if_pos hq.symm, List.map_append, HITS.out]; rfl
       have HN := Lib.hid hn;obtain ⟨z0, z1, z2, z3, z4, z5, z6, z7⟩ := qes ((HBQ.out.block _ HLX.out).trans HYB.out);have key : ∀ (y : Tm) B d, RepP wo (fun b => b < w.heap.size) y B d → RepP wr (fun b => b < w.heap.size ∧ b < wr.heap.size ∧ (Value.slice A3 its.length c3).ownBlock ≠ some b) y B d := fun y B d h =>
        RepP.mono (fun b (h : b < w.heap.size) => ⟨h, by have := HBF.out.size; omega, fun e => by have := (HRF.out.lt b e).1; omega⟩) (fun p (hp : p.block < w.heap.size) => (HBF.out.cell hp).trans (HB.out.cell hp).symm) _ _ _ h
       obtain ⟨g9, c9, w9, hap, hrow9, hbl9, -, -, -⟩ := HRF.out.more1 qg5 HBF.out.size ((x, Ax, cx), (t, At, ct)) (key _ _ _ HR1'.out) (key _ _ _ HR2'.out) (by omega);have HB9 := Lib.hid (hbl9 w w.heap.size HBF.out (Nat.le_refl _));have hl9 : (its ++ [((x, Ax, cx), (t, At, ct))]).length = its.length + 1 := by simp
       have HR9 := Lib.hid hrow9;generalize its ++ [((x, Ax, cx), (t, At, ct))] = it9 at *;clear hq HQ hn key hrow9 hbl9;go_wp2_with (at_builtin; refine qaj rfl _ _ rfl rfl rfl hap ?_)
       clear hap;go_roundw
       case rel => exact ⟨k + 1, it9, by omega, by go_num, HR9.out, HN.out, HB9.out⟩
       case measure => simp [intOf]; omega
  ·obtain rfl : k = l.length := by omega
   have hfl : its.length = (fitN l l.length).length := by have := congrArg List.length HITS.out; rwa [List.length_map] at this
   rw [HITS.out] at HR3;go_wp2_with fail
   go_ret
   exact ⟨A3, c3, by rw [← hfl]; rfl, HR3.out, HB.out⟩
end Go.Proofs.YtpjmdilpldaapaaGreatDoor
