/- The reference's Same of bindings. -/
import Derived.Test.YtipmibjhlpnhjaaGreatDoorScompose
namespace Go.Proofs.YtipmibjhlpnhjaaGreatDoor
open Go.RowKit Go.Sort

theorem sameB_false {l m : List Bd} (h : l ≠ m) : decide (l = m) = false := decide_eq_false h
section
variable {P : Program} {ops : Array Oper} {C : World → Prop} {Q : Act → Prop}
/-- what wpQuiet says, not to be unfolded by the walk (a guarded operation that is off makes the walk unfold all that follows) -/
@[irreducible] def WQ (P : Program) (ops : Array Oper) (C : World → Prop) (Q : Act → Prop) (l : List Oper) (a : Act) : Prop := wpQuiet P ops C Q l a
theorem of_WQ {l : List Oper} {a : Act} (h : WQ P ops C Q l a) : wpQuiet P ops C Q l a := by unfold WQ at h; exact h
theorem to_WQ {l : List Oper} {a : Act} (h : wpQuiet P ops C Q l a) : WQ P ops C Q l a := by unfold WQ; exact h
theorem WQ_nil {a : Act} (h : Q a) : WQ P ops C Q [] a := to_WQ (wpQuiet_nil h)
theorem WQ_step {a : Act} {o : Oper} {rest : List Oper} (h : ∀ K : Act → Prop, (∀ a, WQ P ops C Q rest a → K a) → if Region.wanted o (yielded ops a.tmps) then o.quiet P a C K else K (a.put o.dst undef)) : WQ P ops C Q (o :: rest) a :=
  to_WQ (wpQuiet_step fun K hK => h K fun a ha => hK a (of_WQ ha))
theorem WQ_skip {a : Act} {o : Oper} {rest : List Oper} (hw : Region.wanted o (yielded ops a.tmps) = false) (h : WQ P ops C Q rest (a.put o.dst undef)) : WQ P ops C Q (o :: rest) a := by
  refine to_WQ ?_
  have h := of_WQ h
  rw [wpQuiet, hw]
  exact h
end
set_option maxHeartbeats 1200000 in
set_option maxRecDepth 100000 in
theorem rsameB_any (l m : List Bd) (A0 A1 : Option Addr) (cap0 cap1 : Nat) (w : World) (hl : SizeB l) (hm : SizeB m) (hrl : RepB w (fun b => b < w.heap.size) l A0 cap0) (hrm : RepB w (fun b => b < w.heap.size) m A1 cap1) :
    Calls Tryz.prog 34 #[.slice A0 l.length cap0, .slice A1 m.length cap1] w fun e w' => e = .returned (.bool (decide (l = m))) ∧ Lay w.heap.size w w' := by
  have mixed : Tryz.prog.follows .mixedOrders = true := by kernel_rfl
  have h1 := hrl.1
  have h2 := hrl.2.1
  have h3 := hrm.1
  have h4 := hrm.2.1
  unfold maxLen at h2 h4
  have HRL := Lib.hid hrl; clear hrl
  have HRM := Lib.hid hrm; clear hrm
  by_cases hne : l.length = m.length
  · have hnb : ((l.length : Int) != (m.length : Int)) = false := by simp [hne]
    have HL := Lib.hid hl; clear hl
    have HNE := Lib.hid hne; clear hne
    have HM := Lib.hid hm; clear hm
    go_enter Tryz.func34, Tryz.ntmps34
    go_wp2_with fail
    go_loopw [5] (fun i wr => ∃ k : Nat, k ≤ l.length ∧ i = .int .i64 k ∧ Hid (l.take k = m.take k) ∧ Hid (Lay w.heap.size w wr))
      (fun i _ => l.length - (intOf i).toNat)
    case atStart => exact ⟨0, Nat.zero_le _, rfl, rfl, Lay.refl _ _⟩
    case round =>
      obtain ⟨k, hk, rfl, HT, HLW⟩ := hrel
      have i1 : (0 : Int) ≤ (k : Int) := Int.natCast_nonneg _
      by_cases hlt : k < l.length
      · have hlt2 : k < m.length := by have := HNE.out; omega
        have i2 : (k : Int) < (l.length : Int) := by omega
        have i3 : (k : Int) < (m.length : Int) := by omega
        rcases HRL.out.2.2 with h | ⟨b, off, hA0, hbB, hlp⟩
        · rw [h] at hlt; simp at hlt
        rcases HRM.out.2.2 with h | ⟨b', off', hA1, hbB', hmp⟩
        · rw [h] at hlt2; simp at hlt2
        subst hA0 hA1
        have hss := HLW.out.size
        obtain ⟨A, c, A', c', h8⟩ := (show RepLP wr (fun b => b < w.heap.size) (flat l) b off from RepLP.mono (fun _ h => h) (fun p hp => HLW.out.below.cell hp) _ _ _ hbB hlp).get8 k hlt
        obtain ⟨C, d, C', d', g8⟩ := (show RepLP wr (fun b => b < w.heap.size) (flat m) b' off' from RepLP.mono (fun _ h => h) (fun p hp => HLW.out.below.cell hp) _ _ _ hbB' hmp).get8 k hlt2
        have lift : ∀ (y : Tm) B e, RepP wr (fun b => b < w.heap.size) y B e → RepT wr wr.heap.size y B e := fun y B e h => RepP.mono (fun b (h : b < w.heap.size) => Nat.lt_of_lt_of_le h hss) (fun _ _ => rfl) _ _ _ h
        have C1 : Hid (∀ X, Lay wr.heap.size wr X → Calls Tryz.prog 17 #[l[k].1.val A c, m[k].1.val C d] X fun e w' => e = .returned (.bool (l[k].1.same m[k].1)) ∧ Lay X.heap.size X w') := Lib.hid fun X hX =>
          rsame_any _ _ _ _ _ _ X (HL.out _ (List.getElem_mem _)).1 (HM.out _ (List.getElem_mem _)).1 ((lift _ _ _ h8.r1).go hX.below hX.size) ((lift _ _ _ g8.r1).go hX.below hX.size)
        have C2 : Hid (∀ X, Lay wr.heap.size wr X → Calls Tryz.prog 17 #[l[k].2.val A' c', m[k].2.val C' d'] X fun e w' => e = .returned (.bool (l[k].2.same m[k].2)) ∧ Lay X.heap.size X w') := Lib.hid fun X hX =>
          rsame_any _ _ _ _ _ _ X (HL.out _ (List.getElem_mem _)).2 (HM.out _ (List.getElem_mem _)).2 ((lift _ _ _ h8.r2).go hX.below hX.size) ((lift _ _ _ g8.r2).go hX.below hX.size)
        obtain ⟨q1, hq1⟩ : ∃ c, c = l[k].1.same m[k].1 := ⟨_, rfl⟩
        obtain ⟨q2, hq2⟩ : ∃ c, c = l[k].2.same m[k].2 := ⟨_, rfl⟩
        rw [← hq1] at C1
        rw [← hq2] at C2
        have HQ1 := Lib.hid hq1; clear hq1
        have HQ2 := Lib.hid hq2; clear hq2
        have hcell : ∀ n os o, (grow (wr.drewN n) os).cell? ⟨b, o, none⟩ = wr.cell? ⟨b, o, none⟩ := fun n os o => (Lay.of_grow (w := wr) n os).below.cell (by show b < _; omega)
        have hcell' : ∀ n os o, (grow (wr.drewN n) os).cell? ⟨b', o, none⟩ = wr.cell? ⟨b', o, none⟩ := fun n os o => (Lay.of_grow (w := wr) n os).below.cell (by show b' < _; omega)
        have p0 := fun n os => (hcell n os _).trans h8.c0
        have p1 := fun n os => (hcell n os _).trans h8.c1
        have p2 := fun n os => (hcell n os _).trans h8.c2
        have p3 := fun n os => (hcell n os _).trans h8.c3
        have p4 := fun n os => (hcell n os _).trans h8.c4
        have p5 := fun n os => (hcell n os _).trans h8.c5
        have p6 := fun n os => (hcell n os _).trans h8.c6
        have p7 := fun n os => (hcell n os _).trans h8.c7
        have y0 := fun n os => (hcell' n os _).trans g8.c0
        have y1 := fun n os => (hcell' n os _).trans g8.c1
        have y2 := fun n os => (hcell' n os _).trans g8.c2
        have y3 := fun n os => (hcell' n os _).trans g8.c3
        have y4 := fun n os => (hcell' n os _).trans g8.c4
        have y5 := fun n os => (hcell' n os _).trans g8.c5
        have y6 := fun n os => (hcell' n os _).trans g8.c6
        have y7 := fun n os => (hcell' n os _).trans g8.c7
        obtain ⟨a0, a1, a2, a3, a4, a5, a6, a7, -, -⟩ := h8
        obtain ⟨b0, b1, b2, b3, b4, b5, b6, b7, -, -⟩ := g8
        clear lift hlp hmp hcell hcell'
        have HSS := Lib.hid hss; clear hss
        simp only [Tm.val] at C1 C2
        cases q1 with
        | false =>
          have HE := Lib.hid (sameB_false (l := l) (m := m) (fun e => by subst e; exact (Tm.same_false.1 HQ1.out.symm) rfl))
          go_wp2_with fail
          refine wp_region_quiet_grown (by assumption) (by kernel_rfl) (of_WQ ?_)
          iterate 13
            refine WQ_step (fun K hK => ?_)
            go_simp
            first
              | (refine hK _ ?_; clear hK K)
              | (apply Exists.intro
                 refine ⟨fun _ => ?_, hK _ ?_⟩
                 (go_at_call 17; with_reducible exact quiet_lay (C1.out _ (Lay.of_grow _ _)))
                 clear hK K)
          iterate 12 (refine WQ_skip rfl ?_; simp only [Act.put, List.setIfInBounds_toArray, List.set_cons_succ, List.set_cons_zero])
          refine WQ_step (fun K hK => ?_)
          go_simp
          first
            | (refine hK _ ?_; clear hK K)
            | (apply Exists.intro
               refine ⟨fun _ => ?_, hK _ ?_⟩
               (fail)
               clear hK K)
          refine WQ_nil ?_
          intro _ hw'
          obtain ⟨⟨nq, osq⟩, hw''⟩ := hw'
          subst hw''
          go_wp2_with fail
          go_ret
          exact ⟨by rw [HE.out]; rfl, HLW.out.trans ((Lay.of_grow _ _).mono HSS.out)⟩
        | true =>
          cases q2 with
          | false =>
            have HE := Lib.hid (sameB_false (l := l) (m := m) (fun e => by subst e; exact (Tm.same_false.1 HQ2.out.symm) rfl))
            go_wp2_with fail
            refine wp_region_quiet_grown (by assumption) (by kernel_rfl) (of_WQ ?_)
            iterate 11
              refine WQ_step (fun K hK => ?_)
              go_simp
              first
                | (refine hK _ ?_; clear hK K)
                | (apply Exists.intro
                   refine ⟨fun _ => ?_, hK _ ?_⟩
                   (go_at_call 17; with_reducible exact quiet_lay (C1.out _ (Lay.of_grow _ _)))
                   clear hK K)
            iterate 15
              refine WQ_step (fun K hK => ?_)
              go_simp
              first
                | (refine hK _ ?_; clear hK K)
                | (apply Exists.intro
                   refine ⟨fun _ => ?_, hK _ ?_⟩
                   (go_at_call 17; with_reducible exact quiet_lay (C2.out _ (Lay.of_grow _ _)))
                   clear hK K)
            refine WQ_nil ?_
            intro _ hw'
            obtain ⟨⟨nq, osq⟩, hw''⟩ := hw'
            subst hw''
            go_wp2_with fail
            go_ret
            exact ⟨by rw [HE.out]; rfl, HLW.out.trans ((Lay.of_grow _ _).mono HSS.out)⟩
          | true =>
            have HK : Hid (l[k] = m[k]) := Prod.ext (Tm.same_iff.1 HQ1.out.symm) (Tm.same_iff.1 HQ2.out.symm)
            go_wp2_with fail
            refine wp_region_quiet_grown (by assumption) (by kernel_rfl) (of_WQ ?_)
            iterate 11
              refine WQ_step (fun K hK => ?_)
              go_simp
              first
                | (refine hK _ ?_; clear hK K)
                | (apply Exists.intro
                   refine ⟨fun _ => ?_, hK _ ?_⟩
                   (go_at_call 17; with_reducible exact quiet_lay (C1.out _ (Lay.of_grow _ _)))
                   clear hK K)
            iterate 15
              refine WQ_step (fun K hK => ?_)
              go_simp
              first
                | (refine hK _ ?_; clear hK K)
                | (apply Exists.intro
                   refine ⟨fun _ => ?_, hK _ ?_⟩
                   (go_at_call 17; with_reducible exact quiet_lay (C2.out _ (Lay.of_grow _ _)))
                   clear hK K)
            refine WQ_nil ?_
            intro _ hw'
            obtain ⟨⟨nq, osq⟩, hw''⟩ := hw'
            subst hw''
            go_wp2_with fail
            go_roundw
            case rel => exact ⟨k + 1, by omega, by go_num, (by show l.take (k + 1) = m.take (k + 1); rw [List.take_succ_eq_append_getElem hlt, List.take_succ_eq_append_getElem hlt2, HT.out, HK.out]), HLW.out.trans ((Lay.of_grow _ _).mono HSS.out)⟩
            case measure => simp [intOf]; omega
      · obtain rfl : k = l.length := by omega
        have e : l = m := by have h := HT.out; rwa [List.take_length, HNE.out, List.take_length] at h
        have HE : Hid (decide (l = m) = true) := decide_eq_true e
        clear e
        go_wp2_with fail
        go_ret
        exact ⟨by rw [HE.out]; rfl, HLW.out⟩
  · have hnb : ((l.length : Int) != (m.length : Int)) = true := by simp; omega
    rw [sameB_false (fun e => hne (by rw [e]))]
    go_enter Tryz.func34, Tryz.ntmps34
    go_wp2_with fail
    go_ret
    exact ⟨rfl, Lay.refl _ _⟩
end Go.Proofs.YtipmibjhlpnhjaaGreatDoor
