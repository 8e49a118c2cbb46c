/- The law TermPositions, walked. -/
import Derived.Test.YtbgkabgbgbebaaaDoorAt
import Derived.Test.YtbgkabgbgbebaaaDoorAwake
import Derived.Test.YtbgkabgbgbebaaaDoorRsub
import Derived.Shelf.SlSortCmp.QuietGrown
namespace Go.Proofs.YtbgkabgbgbebaaaDoor
open Go.RowKit Go.Sort

mutual
theorem Tm.at_poss : ∀ t : Tm, t.poss.map (fun p => Tm.atP p t) = t.all.map some
  | .mk k n s l => by
    rw [Tm.poss, Tm.all, List.map_cons, List.map_cons, Tm.atP, Tm.at_posss l (.mk k n s l) 0 rfl]
theorem Tm.at_posss : ∀ (l : List Tm) (t : Tm) (i : Nat), t.kids.drop i = l → (Tm.posss l i).map (fun p => Tm.atP p t) = (Tm.alls l).map some
  | [], _, _, _ => by simp [Tm.posss, Tm.alls]
  | u :: r, t, i, h => by
    have hk : t.kid (i : Int) = some u := by
      unfold Tm.kid
      rw [if_pos (by omega)]
      have := congrArg (·[0]?) h
      simpa using this
    have hd : t.kids.drop (i + 1) = r := by
      have := congrArg List.tail h
      simpa using this
    rw [Tm.posss, Tm.alls, List.map_append, List.map_append, Tm.at_posss r t (i + 1) hd, List.map_map]
    congr 1
    rw [← Tm.at_poss u]
    apply List.map_congr_left
    intro p _
    show Tm.atP ((i : Int) :: p) t = _
    rw [Tm.atP, hk]
end
theorem Tm.at_get {t : Tm} {k : Nat} {p : List Int} {a : Tm} (hp : t.poss[k]? = some p) (ha : t.all[k]? = some a) : Tm.atP p t = some a := by
  have h := congrArg (·[k]?) (Tm.at_poss t)
  simp only [List.getElem?_map, hp, ha, Option.map_some, Option.some.injEq] at h
  exact h

/-- slices.Equal, at the same two positions -/
theorem equal_pos {w : World} {P P' : Nat → Prop} {p : List Int} {A A' : Option Addr} {c c' : Nat} (h : IRep w P p A c) (h' : IRep w P' p A' c') (hp : p.length ≤ 1000000) :
    Calls Tryd.prog 24 #[.slice A p.length c, .slice A' p.length c'] w fun e w' => e = .returned (.bool true) ∧ Lay w.heap.size w w' := by
  obtain ⟨b, o, rfl, -, -, -, h1⟩ := h
  obtain ⟨b', o', rfl, -, -, -, h1'⟩ := h'
  refine (Tryd.slices_Equal_int b o p.length c b' o' p.length c' p p w (Nat.le_refl _) (Nat.le_refl _) (by omega) (by omega) (fun j hj => h1 j _ (by simp [ints, hj])) (fun j hj => h1' j _ (by simp [ints, hj]))).mono ?_
  rintro e w' ⟨rfl, q, rfl⟩
  exact ⟨by simp, (Lay.refl _ _).drewN q⟩



set_option maxHeartbeats 4000000 in
set_option maxRecDepth 100000 in
theorem pos_law (t : Tm) (A : Option Addr) (cap : Nat) (w : World) (hw : Words w.heap.size w) (hrep : RepT w w.heap.size t A cap) :
    Calls Tryd.prog 5 #[t.val A cap] w fun e w' => e = .returned (.bool true) ∧ Below w.heap.size w w' := by
  have mixed : Tryd.prog.follows .mixedOrders = true := by kernel_rfl
  obtain ⟨V, hV⟩ : ∃ V, V = w.alloc (boxOf t A cap) := ⟨_, rfl⟩
  have hbox : BoxT V w.heap.size t A cap := by rw [hV]; exact BoxT.new hrep
  have hbV : Below w.heap.size w V := by rw [hV]; exact below1 (Nat.le_refl _) _
  have HW := Lib.hid (hw.below hbV); clear hw hrep
  have HBV := Lib.hid hbV; clear hbV
  have HBOX := Lib.hid hbox; clear hbox
  simp only [boxOf] at hV
  have HV := Lib.hid hV; clear hV
  simp only [Tm.val]
  go_enter Tryd.func5, Tryd.ntmps5
  go_wp2_with fail
  rw [← HV.out]
  refine (awake_any V HW.out).mono ?_
  rintro e w1 ⟨rfl, hb1⟩
  have hbox := HBOX.out.below hb1
  have hB1 := below_then HBV.out hb1 HBV.out.size
  have hw1 := HW.out.below hb1
  clear HV HBV HW HBOX hb1
  obtain ⟨a0, a1, a2, a3, -⟩ := hbox.cells
  have HB := Lib.hid hB1; clear hB1
  have HW := Lib.hid hw1; clear hw1
  have HBOX := Lib.hid hbox; clear hbox
  go_wp2_with fail
  refine (one_any t A cap w1 HBOX.out.2).mono ?_
  rintro e w2 ⟨rfl, hl2⟩
  have hbox := HBOX.out.below hl2.below
  have hB2 := below_then HB.out hl2.below HB.out.size
  have hw2 := HW.out.below hl2.below
  clear HB HW HBOX a0 a1 a2 a3 hl2
  obtain ⟨a0, a1, a2, a3, -⟩ := hbox.cells
  have HB := Lib.hid hB2; clear hB2
  have HW := Lib.hid hw2; clear hw2
  have HBOX := Lib.hid hbox; clear hbox
  by_cases hle : 0 ≤ t.left 450
  · have hsz : t.size ≤ 450 := by have := Tm.left_size t 450 hle; omega
    rw [decide_eq_true hle]
    clear hle
    have HSZ := Lib.hid hsz; clear hsz
    go_wp2_with fail
    refine (rdepth_any 1000000 t A cap w2 (by have := HSZ.out; omega) (by decide) HBOX.out.2).mono ?_
    rintro e w3 ⟨rfl, hl3⟩
    have hbox := HBOX.out.below hl3.below
    have hB3 := below_then HB.out hl3.below HB.out.size
    have hw3 := HW.out.below hl3.below
    clear HB HW HBOX a0 a1 a2 a3 hl3
    obtain ⟨a0, a1, a2, a3, -⟩ := hbox.cells
    have HB := Lib.hid hB3; clear hB3
    have HW := Lib.hid hw3; clear hw3
    have HBOX := Lib.hid hbox; clear hbox
    by_cases hd : (60 : Int) < (t.depth : Int)
    · have d1 : decide ((60 : Int) < (t.depth : Int)) = true := decide_eq_true hd
      go_wp2_with fail
      refine (awake_any w3 HW.out).mono ?_
      rintro e w4 ⟨rfl, hb4⟩
      go_wp2_with fail
      go_ret
      exact ⟨rfl, below_then HB.out hb4 HB.out.size⟩
    · have d1 : decide ((60 : Int) < (t.depth : Int)) = false := decide_eq_false hd
      clear hd HW
      have HC : Hid (∀ Y, Below w3.heap.size w3 Y → Y.cell? ⟨w.heap.size, 0, none⟩ = some (.int .i64 t.kind) ∧ Y.cell? ⟨w.heap.size, 1, none⟩ = some (.string t.name) ∧ Y.cell? ⟨w.heap.size, 2, none⟩ = some (.int .i64 t.sort) ∧ Y.cell? ⟨w.heap.size, 3, none⟩ = some (.slice A t.kids.length cap)) := fun Y h => by
        obtain ⟨h0, h1, h2, h3, -⟩ := (HBOX.out.below h).cells
        exact ⟨h0, h1, h2, h3⟩
      go_wp2_with fail
      clear a0 a1 a2 a3
      have hS : Below w3.heap.size w3 w3.drew := (Lay.refl _ _).drew.below
      have HS := Lib.hid hS; clear hS
      refine wp_region_mix (fun Y => Below w3.heap.size w3 Y) 6 (.held 0 (.held 2 (.op 1 (.op 3 (.op 4 (.op 5 .nil)))))) mixed (by kernel_rfl) ?_
      refine mix_take (v := .agg #[.int .i64 t.kind, .string t.name, .int .i64 t.sort, .slice A t.kids.length cap]) rfl rfl (fun _ _ _ h => h) HS.out (fun Y hY => by obtain ⟨g0, g1, g2, g3⟩ := HC.out Y hY; (try simp only [Act.put]); go_simp) ?_
      refine mix_take (v := .agg #[.int .i64 t.kind, .string t.name, .int .i64 t.sort, .slice A t.kids.length cap]) rfl rfl (fun _ _ _ h => h) HS.out (fun Y hY => by obtain ⟨g0, g1, g2, g3⟩ := HC.out Y hY; (try simp only [Act.put]); go_simp) ?_
      simp only [Act.put, List.setIfInBounds_toArray]
      refine mix_op rfl rfl (fun K hK => ?_)
      go_wp2_with fail
      refine (positions_any t A cap w3.drew (by have := HSZ.out; omega) (HBOX.out.below HS.out).2).mono ?_
      rintro e y1 ⟨v1, its, rfl, hrow1, hb1, hm1⟩
      have hS := below_then HS.out hb1 HS.out.size; clear HS
      have HS := Lib.hid hS; clear hS
      obtain ⟨A1, c1, hv1, -⟩ := hrow1.form
      have hl1 : its.length = t.size := by rw [← Tm.poss_length, ← hm1, List.length_map]
      rw [hl1] at hv1
      subst hv1
      refine hK _ _ ⟨fun _ => HS.out, ?_⟩; clear hK K
      refine mix_op rfl rfl (fun K hK => ?_)
      go_wp2_with fail
      refine (rposs_any 1000000 t A cap y1 (by have := HSZ.out; omega) (by decide) (HBOX.out.below HS.out).2).mono ?_
      rintro e y2 ⟨v2, its2, rfl, hrow2, hb2, hm2⟩
      have hS := below_then HS.out hb2 HS.out.size; clear HS
      have HS := Lib.hid hS; clear hS
      obtain ⟨A2, c2, hv2, -⟩ := hrow2.form
      have hl2 : its2.length = t.size := by rw [← Tm.poss_length, ← hm2, List.length_map]
      rw [hl2] at hv2
      subst hv2
      have hrow1' := hrow1.below hb2
      refine hK _ _ ⟨fun _ => HS.out, ?_⟩; clear hK K
      clear hrow1 hb1 hb2
      have HM1 := Lib.hid hm1; clear hm1
      have HM2 := Lib.hid hm2; clear hm2
      have HL1 := Lib.hid hl1; clear hl1
      have HL2 := Lib.hid hl2; clear hl2
      have HR1 := Lib.hid hrow1'; clear hrow1'
      have HR2 := Lib.hid hrow2; clear hrow2
      refine mix_op rfl rfl (fun K hK => ?_)
      go_wp2_with fail
      refine ⟨fun _ => HS.out, ?_⟩
      refine mix_op rfl rfl (fun K hK => ?_)
      go_wp2_with fail
      refine ⟨fun _ => HS.out, mix_nil ?_⟩
      obtain ⟨a0, a1, a2, a3⟩ := HC.out y2 HS.out
      have hbox := HBOX.out.below HS.out
      have hB := below_then HB.out HS.out HB.out.size
      clear HC HBOX HB HS
      have HBOX := Lib.hid hbox; clear hbox
      have HB := Lib.hid hB; clear hB
      go_wp2_with fail
      refine (rall_any 1000000 t A cap y2 y2.heap.size (by have := HSZ.out; omega) (by decide) (Nat.le_refl _) HBOX.out.2).mono ?_
      rintro e y3 ⟨A3, c3, n3, its3, rfl, hn3, hrow3, hb3, hm3⟩
      rw [Tm.all_length] at hn3
      have hbox := HBOX.out.below hb3
      have hB := below_then HB.out hb3 HB.out.size
      have hR1 := HR1.out.below hb3
      have hR2 := HR2.out.below hb3
      clear a0 a1 a2 a3 HBOX HB HR1 HR2 hb3
      have hsz0 : t.size ≤ 450 := HSZ.out
      have hlen3 : its3.length = t.size := by rw [← Tm.all_length, ← hm3, List.length_map]
      subst hn3
      have hnn : ((t.size : Int) != (t.size : Int)) = false := by simp
      have HLEN3 := Lib.hid hlen3; clear hlen3
      have HM3 := Lib.hid hm3; clear hm3
      have HR3 := Lib.hid hrow3; clear hrow3
      have HR1 := Lib.hid hR1; clear hR1
      have HR2 := Lib.hid hR2; clear hR2
      have HBOX := Lib.hid hbox; clear hbox
      have HB := Lib.hid hB; clear hB
      go_wp2_with fail
      go_loopw [35] (fun i wr => ∃ k : Nat, k ≤ t.size ∧ i = .int .i64 k ∧ Hid (Below y3.heap.size y3 wr)) (fun i _ => t.size - (intOf i).toNat)
      case atStart => exact ⟨0, Nat.zero_le _, rfl, Below.refl _ _⟩
      case round =>
        obtain ⟨k, hk, rfl, HBR⟩ := hrel
        have i1 : (0 : Int) ≤ (k : Int) := Int.natCast_nonneg _
        by_cases hlt : k < t.size
        · have i2 : (k : Int) < (t.size : Int) := by omega
          have hr1 := HR1.out.below HBR.out
          have hr2 := HR2.out.below HBR.out
          obtain ⟨g3, rfl⟩ := HR3.out.some (by omega)
          have hr3 := HR3.out.below HBR.out
          have hk1 : k < its.length := by rw [HL1.out]; exact hlt
          have hk2 : k < its2.length := by rw [HL2.out]; exact hlt
          have hk3 : k < its3.length := by rw [HLEN3.out]; exact hlt
          obtain ⟨g1, rfl, hs1⟩ := hr1.slot k hk1
          obtain ⟨g2, rfl, hs2⟩ := hr2.slot k hk2
          obtain ⟨q0, q1, q2, q3, -⟩ := hr3.slot HLEN3.out.symm k hk3
          have q5 := hr3.reps its3[k] (List.getElem_mem _)
          have hI1 := hr1.reps its[k] (List.getElem_mem _)
          have hI2 := hr2.reps its2[k] (List.getElem_mem _)
          have hp1 : t.poss[k]? = some its[k].1 := by rw [← HM1.out]; simp [hk1]
          have hp2 : t.poss[k]? = some its2[k].1 := by rw [← HM2.out]; simp [hk2]
          have ha3 : t.all[k]? = some its3[k].1 := by rw [← HM3.out]; simp [hk3]
          have hg1 := (hr1.lt g1 rfl).2
          have hg2 := (hr2.lt g2 rfl).2
          have hg3 := (hr3.lt g3 rfl).2
          obtain ⟨X1, hX1⟩ : ∃ X, X = its[k] := ⟨_, rfl⟩
          obtain ⟨X2, hX2⟩ : ∃ X, X = its2[k] := ⟨_, rfl⟩
          obtain ⟨X3, hX3⟩ : ∃ X, X = its3[k] := ⟨_, rfl⟩
          rw [← hX1] at hs1 hI1 hp1
          rw [← hX2] at hs2 hI2 hp2
          rw [← hX3] at q0 q1 q2 q3 q5 ha3
          clear hX1 hX2 hX3 hr1 hr2 hr3 hk1 hk2 hk3
          obtain ⟨p, B1, k1⟩ := X1
          obtain ⟨p2, B2, k2⟩ := X2
          obtain ⟨a, C, ca⟩ := X3
          simp only at hs1 hs2 q0 q1 q2 q3 q5 hI1 hI2 hp1 hp2 ha3
          obtain rfl : p2 = p := by rw [hp1] at hp2; exact (Option.some.inj hp2).symm
          have hat := Tm.at_get hp1 ha3
          have hpl : p2.length ≤ 1000000 := by have := Tm.poss_len t p2 (List.mem_of_getElem? hp1); omega
          have hal : a.size ≤ 1000000 := by have := Tm.mem_all_size t a (List.mem_of_getElem? ha3); omega
          have hbx := HBOX.out.below HBR.out
          have HF : Hid (∀ Y, Below wr.heap.size wr Y → (Y.cell? ⟨w.heap.size, 0, none⟩ = some (.int .i64 t.kind) ∧ Y.cell? ⟨w.heap.size, 1, none⟩ = some (.string t.name) ∧ Y.cell? ⟨w.heap.size, 2, none⟩ = some (.int .i64 t.sort) ∧ Y.cell? ⟨w.heap.size, 3, none⟩ = some (.slice A t.kids.length cap)) ∧
              Y.cell? ⟨g1, k, none⟩ = some (.slice B1 p2.length k1) ∧ Y.cell? ⟨g2, k, none⟩ = some (.slice B2 p2.length k2) ∧
              Y.cell? ⟨g3, k * 4, none⟩ = some (.int .i64 a.kind) ∧ Y.cell? ⟨g3, k * 4 + 1, none⟩ = some (.string a.name) ∧ Y.cell? ⟨g3, k * 4 + 2, none⟩ = some (.int .i64 a.sort) ∧ Y.cell? ⟨g3, k * 4 + 3, none⟩ = some (.slice C a.kids.length ca)) := fun Y h => by
            obtain ⟨h0, h1, h2, h3, -⟩ := (hbx.below h).cells
            exact ⟨⟨h0, h1, h2, h3⟩, (h.cell hg1).trans hs1, (h.cell hg2).trans hs2, (h.cell hg3).trans q0, (h.cell hg3).trans q1, (h.cell hg3).trans q2, (h.cell hg3).trans q3⟩
          have RAT : Hid (∀ Y, Below wr.heap.size wr Y → Calls Tryd.prog 23 #[.agg #[.int .i64 t.kind, .string t.name, .int .i64 t.sort, .slice A t.kids.length cap], .slice B1 p2.length k1] Y (AtOf Y (some a))) := fun Y h => by
            rw [← hat]
            exact at_any t A cap p2 B1 k1 Y (by omega) hpl (hbx.below h).2 (IRep.mono (fun b hb => by have := h.size; exact Nat.lt_of_lt_of_le hb.2.1 this) (fun q hq => h.cell hq.2.1) hI1).toI
          have REQ : Hid (∀ Y, Below wr.heap.size wr Y → Calls Tryd.prog 24 #[.slice B1 p2.length k1, .slice B2 p2.length k2] Y fun e w' => e = .returned (.bool true) ∧ Lay Y.heap.size Y w') := fun Y h =>
            equal_pos (P := fun _ => True) (P' := fun _ => True) (IRep.mono (fun _ _ => trivial) (fun q hq => h.cell hq.2.1) hI1) (IRep.mono (fun _ _ => trivial) (fun q hq => h.cell hq.2.1) hI2) hpl
          have RSAME : Hid (∀ Y A6 c6, Below wr.heap.size wr Y → RepT Y Y.heap.size a A6 c6 → Calls Tryd.prog 25 #[.agg #[.int .i64 a.kind, .string a.name, .int .i64 a.sort, .slice A6 a.kids.length c6], .agg #[.int .i64 a.kind, .string a.name, .int .i64 a.sort, .slice C a.kids.length ca]] Y fun e w' => e = .returned (.bool true) ∧ Lay Y.heap.size Y w') := fun Y A6 c6 h hr => by
            have := rsame_any a a A6 C c6 ca Y hal hal hr (RepP.mono (fun b hb => by have := h.size; exact Nat.lt_of_lt_of_le hb.2.1 this) (fun q hq => h.cell hq.2.1) _ _ _ q5)
            rwa [show a.same a = true from Tm.same_iff.2 rfl] at this
          clear hs1 hs2 q0 q1 q2 q3 q5 hI1 hI2 hp1 hp2 ha3 hg1 hg2 hg3 hat hbx
          have HAL := Lib.hid hal; clear hal hpl
          go_wp2_with fail
          have hS : Below wr.heap.size wr wr.drew := (Lay.refl _ _).drew.below
          have HS := Lib.hid hS; clear hS
          refine wp_region_mix (fun Y => Below wr.heap.size wr Y) 12 (.held 0 (.held 1 (.held 2 (.held 3 (.held 4 (.two 5 9 (.held 6 (.held 7 (.held 8 (.op 9 (.op 10 (.op 11 .nil)))))) (.op 5 (.held 6 (.held 7 (.held 8 (.op 10 (.op 11 .nil)))))))))))) mixed (by kernel_rfl) ?_
          refine mix_take (v := .agg #[.int .i64 t.kind, .string t.name, .int .i64 t.sort, .slice A t.kids.length cap]) rfl rfl (fun _ _ _ h => h) HS.out (fun Y hY => by obtain ⟨⟨b0, b1, b2, b3⟩, b4, b5, b6, b7, b8, b9⟩ := HF.out Y hY; (try simp only [Act.put]); go_simp) ?_
          refine mix_take (v := .slice (some ⟨g1, 0, none⟩) t.size c1) rfl rfl (fun _ _ _ h => h) HS.out (fun Y hY => by obtain ⟨⟨b0, b1, b2, b3⟩, b4, b5, b6, b7, b8, b9⟩ := HF.out Y hY; (try simp only [Act.put]); go_simp) ?_
          refine mix_take (v := .int .i64 k) rfl rfl (fun _ _ _ h => h) HS.out (fun Y hY => by obtain ⟨⟨b0, b1, b2, b3⟩, b4, b5, b6, b7, b8, b9⟩ := HF.out Y hY; (try simp only [Act.put]); go_simp) ?_
          refine mix_take (v := .pointer (some ⟨g1, k, none⟩)) rfl rfl (fun _ _ _ h => h) HS.out (fun Y hY => by obtain ⟨⟨b0, b1, b2, b3⟩, b4, b5, b6, b7, b8, b9⟩ := HF.out Y hY; (try simp only [Act.put]); go_simp) ?_
          refine mix_take (v := .slice B1 p2.length k1) rfl rfl (fun _ _ _ h => h) HS.out (fun Y hY => by obtain ⟨⟨b0, b1, b2, b3⟩, b4, b5, b6, b7, b8, b9⟩ := HF.out Y hY; (try simp only [Act.put]); go_simp) ?_
          simp only [Act.put, List.setIfInBounds_toArray]
          refine mix_two ?_ ?_
          · skip
            refine mix_op rfl rfl (fun K hK => ?_)
            go_wp2_with fail
            refine (RAT.out wr.drew HS.out).mono ?_
            rintro e y4 ⟨hb4, A6, c6, rfl, hr4⟩
            have hS := below_then HS.out hb4 HS.out.size
            clear HS
            have HS := Lib.hid hS; clear hS hb4
            have HR4 := Lib.hid (repT_of hr4); clear hr4
            simp only [Tm.val]
            refine hK _ _ ⟨fun _ => HS.out, ?_⟩; clear hK K
            refine mix_take (v := .tuple #[.agg #[.int .i64 a.kind, .string a.name, .int .i64 a.sort, .slice A6 a.kids.length c6], .int .i64 0]) rfl rfl (fun _ _ _ h => h) HS.out (fun Y hY => by obtain ⟨⟨b0, b1, b2, b3⟩, b4, b5, b6, b7, b8, b9⟩ := HF.out Y hY; (try simp only [Act.put]); go_simp) ?_
            refine mix_take (v := .agg #[.int .i64 a.kind, .string a.name, .int .i64 a.sort, .slice A6 a.kids.length c6]) rfl rfl (fun _ _ _ h => h) HS.out (fun Y hY => by obtain ⟨⟨b0, b1, b2, b3⟩, b4, b5, b6, b7, b8, b9⟩ := HF.out Y hY; (try simp only [Act.put]); go_simp) ?_
            refine mix_take (v := .int .i64 0) rfl rfl (fun _ _ _ h => h) HS.out (fun Y hY => by obtain ⟨⟨b0, b1, b2, b3⟩, b4, b5, b6, b7, b8, b9⟩ := HF.out Y hY; (try simp only [Act.put]); go_simp) ?_
            simp only [Act.put, List.setIfInBounds_toArray]
            refine mix_op rfl rfl (fun K hK => ?_)
            go_wp2_with fail
            refine ⟨fun _ => HS.out.alloc HS.out.size _, ?_⟩
            refine mix_op rfl rfl (fun K hK => ?_)
            go_wp2_with fail
            have hbx := BoxT.new HR4.out
            simp only [boxOf] at hbx
            have hs4 := HS.out.alloc HS.out.size (.cells #[.int .i64 a.kind, .string a.name, .int .i64 a.sort, .slice A6 a.kids.length c6] 24)
            obtain ⟨bx, hbx0⟩ : ∃ b, b = y4.heap.size := ⟨_, rfl⟩
            rw [← hbx0] at hbx
            rw [← hbx0]
            clear HS HR4 hbx0
            generalize y4.alloc (.cells #[.int .i64 a.kind, .string a.name, .int .i64 a.sort, .slice A6 a.kids.length c6] 24) = E at *
            have HS := Lib.hid hs4; clear hs4
            have HBX := Lib.hid hbx; clear hbx
            refine ⟨fun _ => HS.out, ?_⟩
            refine mix_op rfl rfl (fun K hK => ?_)
            go_wp2_with fail
            refine ⟨fun _ => HS.out, mix_nil ?_⟩
            have hE : ∀ n os, Below wr.heap.size wr (grow (E.drewN n) os) := fun n os => below_then HS.out (Lay.of_grow n os).below HS.out.size
            have HE := Lib.hid hE; clear hE
            have hbE : ∀ n os, BoxT (grow (E.drewN n) os) (bx) a A6 c6 := fun n os => HBX.out.below (Lay.of_grow n os).below
            have f0 := fun n os => (HF.out _ (HE.out n os)).2.1
            have f1 := fun n os => (HF.out _ (HE.out n os)).2.2.1
            have f2 := fun n os => (HF.out _ (HE.out n os)).2.2.2.1
            have f3 := fun n os => (HF.out _ (HE.out n os)).2.2.2.2.1
            have f4 := fun n os => (HF.out _ (HE.out n os)).2.2.2.2.2.1
            have f5 := fun n os => (HF.out _ (HE.out n os)).2.2.2.2.2.2
            have h0 := fun n os => (hbE n os).cells.1
            have h1 := fun n os => (hbE n os).cells.2.1
            have h2 := fun n os => (hbE n os).cells.2.2.1
            have h3 := fun n os => (hbE n os).cells.2.2.2.1
            have HBE : Hid (∀ n os, RepT (grow (E.drewN n) os) (grow (E.drewN n) os).heap.size a A6 c6) := fun n os => (hbE n os).2
            clear hbE HF RAT HBX
            go_wp2_with fail
            go_quiet_grown (first
              | (go_at_call 24; exact quiet_lay (REQ.out _ (HE.out _ _)))
              | (go_at_call 25; exact quiet_lay (RSAME.out _ _ _ (HE.out _ _) (HBE.out _ _))))
            go_wp2_with fail
            go_roundw
            case rel => exact ⟨k + 1, by omega, by go_num, HBR.out.trans ((HE.out _ _).mono HBR.out.size)⟩
            case measure => simp [intOf]; omega
          · skip
            refine mix_op rfl rfl (fun K hK => ?_)
            go_wp2_with fail
            refine ⟨fun _ => HS.out.alloc HS.out.size _, ?_⟩
            obtain ⟨X, hX⟩ : ∃ X, X = (wr.alloc (.cells #[.int .i64 0, .string ⟨#[]⟩, .int .i64 0, .slice none 0 0] 24)).drew := ⟨_, rfl⟩
            have hXn : X.heap[wr.heap.size]? = some (.cells #[.int .i64 0, .string ⟨#[]⟩, .int .i64 0, .slice none 0 0] 24) := by rw [hX]; exact heap_alloc_new wr _
            have hXs : X.heap.size = wr.heap.size + 1 := by rw [hX]; simp
            have hS : Below wr.heap.size wr X := by rw [hX]; exact HS.out.alloc HS.out.size _
            rw [← hX]
            clear HS hX
            have HS := Lib.hid hS; clear hS
            have HXN := Lib.hid hXn; clear hXn
            have HXS := Lib.hid hXs; clear hXs
            refine mix_op rfl rfl (fun K hK => ?_)
            go_wp2_with fail
            refine (RAT.out X HS.out).mono ?_
            rintro e y4 ⟨hb4, A6, c6, rfl, hr4⟩
            have hS := below_then HS.out hb4 HS.out.size
            have hYn := (hb4.block wr.heap.size (by rw [HXS.out]; omega)).trans HXN.out
            have hr4' : RepP y4 (fun b => wr.heap.size + 1 ≤ b ∧ b < y4.heap.size) a A6 c6 := by rw [← HXS.out]; exact hr4
            clear HS hr4 hb4 HXN HXS
            have HS := Lib.hid hS; clear hS
            have HR4 := Lib.hid hr4'; clear hr4'
            obtain ⟨z0, z1, z2, z3, z4⟩ := box_at hYn
            have HYN := Lib.hid hYn; clear hYn
            simp only [Tm.val]
            refine hK _ _ ⟨fun _ => HS.out, ?_⟩; clear hK K
            refine mix_take (v := .tuple #[.agg #[.int .i64 a.kind, .string a.name, .int .i64 a.sort, .slice A6 a.kids.length c6], .int .i64 0]) rfl rfl (fun _ _ _ h => h) HS.out (fun Y hY => by obtain ⟨⟨b0, b1, b2, b3⟩, b4, b5, b6, b7, b8, b9⟩ := HF.out Y hY; (try simp only [Act.put]); go_simp) ?_
            refine mix_take (v := .agg #[.int .i64 a.kind, .string a.name, .int .i64 a.sort, .slice A6 a.kids.length c6]) rfl rfl (fun _ _ _ h => h) HS.out (fun Y hY => by obtain ⟨⟨b0, b1, b2, b3⟩, b4, b5, b6, b7, b8, b9⟩ := HF.out Y hY; (try simp only [Act.put]); go_simp) ?_
            refine mix_take (v := .int .i64 0) rfl rfl (fun _ _ _ h => h) HS.out (fun Y hY => by obtain ⟨⟨b0, b1, b2, b3⟩, b4, b5, b6, b7, b8, b9⟩ := HF.out Y hY; (try simp only [Act.put]); go_simp) ?_
            simp only [Act.put, List.setIfInBounds_toArray]
            have hE4 : BoxT ((((y4.setCell ⟨wr.heap.size, 0, none⟩ (.int .i64 a.kind)).setCell ⟨wr.heap.size, 1, none⟩ (.string a.name)).setCell ⟨wr.heap.size, 2, none⟩ (.int .i64 a.sort)).setCell ⟨wr.heap.size, 3, none⟩ (.slice A6 a.kids.length c6)) wr.heap.size a A6 c6 :=
              ⟨heap_set4 HYN.out, RepP.mono (fun b ⟨_, h2⟩ => by simpa [World.setCell] using h2) (fun q ⟨h1, _⟩ => World.cell?_of_block (heap_set4_other (by omega))) _ _ _ HR4.out⟩
            have hS4 : Below wr.heap.size wr ((((y4.setCell ⟨wr.heap.size, 0, none⟩ (.int .i64 a.kind)).setCell ⟨wr.heap.size, 1, none⟩ (.string a.name)).setCell ⟨wr.heap.size, 2, none⟩ (.int .i64 a.sort)).setCell ⟨wr.heap.size, 3, none⟩ (.slice A6 a.kids.length c6)) := below_set4 HS.out (Nat.le_refl _)
            have HE4 := Lib.hid hE4; clear hE4
            have HS4 := Lib.hid hS4; clear hS4
            clear HS HR4 HYN
            refine mix_op rfl rfl (fun K hK => ?_)
            go_wp2_with fail
            have hbx := HE4.out
            have hs4 := HS4.out
            clear HE4 HS4 z0 z1 z2 z3 z4
            generalize ((((y4.setCell ⟨wr.heap.size, 0, none⟩ (.int .i64 a.kind)).setCell ⟨wr.heap.size, 1, none⟩ (.string a.name)).setCell ⟨wr.heap.size, 2, none⟩ (.int .i64 a.sort)).setCell ⟨wr.heap.size, 3, none⟩ (.slice A6 a.kids.length c6)) = E at *
            have HS := Lib.hid hs4; clear hs4
            have HBX := Lib.hid hbx; clear hbx
            refine ⟨fun _ => HS.out, ?_⟩
            refine mix_op rfl rfl (fun K hK => ?_)
            go_wp2_with fail
            refine ⟨fun _ => HS.out, mix_nil ?_⟩
            have hE : ∀ n os, Below wr.heap.size wr (grow (E.drewN n) os) := fun n os => below_then HS.out (Lay.of_grow n os).below HS.out.size
            have HE := Lib.hid hE; clear hE
            have hbE : ∀ n os, BoxT (grow (E.drewN n) os) (wr.heap.size) a A6 c6 := fun n os => HBX.out.below (Lay.of_grow n os).below
            have f0 := fun n os => (HF.out _ (HE.out n os)).2.1
            have f1 := fun n os => (HF.out _ (HE.out n os)).2.2.1
            have f2 := fun n os => (HF.out _ (HE.out n os)).2.2.2.1
            have f3 := fun n os => (HF.out _ (HE.out n os)).2.2.2.2.1
            have f4 := fun n os => (HF.out _ (HE.out n os)).2.2.2.2.2.1
            have f5 := fun n os => (HF.out _ (HE.out n os)).2.2.2.2.2.2
            have h0 := fun n os => (hbE n os).cells.1
            have h1 := fun n os => (hbE n os).cells.2.1
            have h2 := fun n os => (hbE n os).cells.2.2.1
            have h3 := fun n os => (hbE n os).cells.2.2.2.1
            have HBE : Hid (∀ n os, RepT (grow (E.drewN n) os) (grow (E.drewN n) os).heap.size a A6 c6) := fun n os => (hbE n os).2
            clear hbE HF RAT HBX
            go_wp2_with fail
            go_quiet_grown (first
              | (go_at_call 24; exact quiet_lay (REQ.out _ (HE.out _ _)))
              | (go_at_call 25; exact quiet_lay (RSAME.out _ _ _ (HE.out _ _) (HBE.out _ _))))
            go_wp2_with fail
            go_roundw
            case rel => exact ⟨k + 1, by omega, by go_num, HBR.out.trans ((HE.out _ _).mono HBR.out.size)⟩
            case measure => simp [intOf]; omega
        · obtain rfl : k = t.size := by omega
          go_wp2_with fail
          go_ret
          exact ⟨rfl, below_then HB.out HBR.out HB.out.size⟩
  · rw [decide_eq_false hle]
    go_wp2_with fail
    refine (awake_any w2 HW.out).mono ?_
    rintro e w3 ⟨rfl, hb3⟩
    go_wp2_with fail
    go_ret
    exact ⟨rfl, below_then HB.out hb3 HB.out.size⟩
end Go.Proofs.YtbgkabgbgbebaaaDoor
