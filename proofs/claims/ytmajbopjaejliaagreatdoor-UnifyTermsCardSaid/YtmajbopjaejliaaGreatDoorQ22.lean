/- UtermsLaw (joined by shake.py). -/
import Derived.Test.YtmajbopjaejliaaGreatDoorQ21
namespace Go.Proofs.YtmajbopjaejliaaGreatDoor
open Go.RowKit Go.Sort
attribute [local irreducible] wpMix4
set_option linter.unusedSimpArgs false in
set_option linter.unusedVariables false in
set_option maxHeartbeats 40000000 in
set_option maxRecDepth 100000 in
theorem uterms_law (t u : Tm) (T U : Option Addr) (ct cu : Nat) (w : World) (rt : RepT w w.heap.size t T ct) (ru : RepT w w.heap.size u U cu) :
    Calls Tryz.prog 3 #[t.val T ct, u.val U cu] w fun e w' => e = .returned (.bool true) ∧ Below w.heap.size w w' := by
  have mixed : Tryz.prog.follows .mixedOrders = true := by kernel_rfl
  have HF := Lib.hid (show Facts w [] w from Below.refl _ _)
  obtain ⟨V, hV⟩ : ∃ V, V = (w.alloc (boxOf t T ct)).alloc (boxOf u U cu) := ⟨_, rfl⟩
  have HA := HF.out.boxes2 rt ru
  rw [← hV] at HA
  obtain ⟨b0, hb0⟩ : ∃ b, b = w.heap.size := ⟨_, rfl⟩
  have hb0w : w.heap.size ≤ b0 := by omega
  simp only [boxOf] at hV
  have HV := Lib.hid hV
  have HA := Lib.hid HA
  clear hV HF rt ru
  simp only [Tm.val]
  go_enter Tryz.func3, Tryz.ntmps3
  go_wp2_with fail
  rw [← HV.out, ← hb0]
  rw [← hb0] at HA
  clear HV hb0
  refine (uawake_any w V (Facts.bel HA.out) (itoa_small w)).mono ?_
  rintro e w1 ⟨rfl, hb1⟩
  have HB := Lib.hid (Facts.below hb1 HA.out)
  clear HA hb1
  obtain ⟨a0, a1, a2, a3, -⟩ := BoxT.cells HB.out.2.1
  obtain ⟨c0, c1, c2, c3, -⟩ := BoxT.cells HB.out.1
  obtain ⟨Z, hZ⟩ : ∃ Z, Z = w1.alloc (.cells (itCells [(t, T, ct), (u, U, cu)]).toArray 24) := ⟨_, rfl⟩
  have HC := Lib.hid (HB.out.slice _ hZ (by simp) (fun x hx => by
    simp only [List.mem_cons, List.not_mem_nil, or_false] at hx
    rcases hx with rfl | rfl
    · exact HB.out.2.1.2
    · exact HB.out.1.2))
  simp only [itCells, Tm.cells, List.cons_append, List.nil_append] at hZ
  have HZ := Lib.hid hZ
  clear hZ HB
  go_wp2_with fail
  rw [← HZ.out]
  refine (few_any [t, u] _ 2 2 450 Z (by decide) (by decide) HC.out.1).mono ?_
  rintro e w2 ⟨rfl, hl2⟩
  have HD := Lib.hid (Facts.below hl2.below HC.out.2)
  clear HZ HC hl2 a0 a1 a2 a3 c0 c1 c2 c3
  by_cases hle : (([t, u] : List Tm).length : Int) ≤ 2 ∧ 0 ≤ Tm.lefts [t, u] 450
  rotate_left
  · rw [decide_eq_false hle]
    go_wp2_with fail
    refine (uawake_any w w2 (Facts.bel HD.out) (itoa_small w)).mono ?_
    rintro e w3 ⟨rfl, hb3⟩
    go_wp2_with fail
    go_ret
    exact ⟨rfl, Facts.bel (Facts.below hb3 HD.out)⟩
  have hsz := Tm.lefts_each (by decide) hle.2
  have st : t.size ≤ 450 := by have := hsz t (by simp); omega
  have su : u.size ≤ 450 := by have := hsz u (by simp); omega
  rw [decide_eq_true hle]
  clear hle hsz
  obtain ⟨r, h1, h2⟩ := unify_ans t u
  have hsz := solved_size h1 h2
  have hfin := unify_fin h1 h2
  have U1 : ∀ (Z : World), RepT Z Z.heap.size t T ct → RepT Z Z.heap.size u U cu → Calls Tryz.prog 12 #[t.val T ct, u.val U cu] Z (SolvedU r Z) := fun Z ha hb => unify_any t u T U ct cu Z r (by omega) (by omega) ha hb h1 h2
  have U2 : ∀ (Z : World), RepT Z Z.heap.size t T ct → RepT Z Z.heap.size u U cu → Calls Tryz.prog 13 #[t.val T ct, u.val U cu] Z (SolvedU r Z) := fun Z ha hb => runify_any t u T U ct cu Z r (by omega) (by omega) ha hb h1 h2
  unfold SolvedU at U1 U2
  clear h1 h2
  obtain ⟨bs, hbs⟩ : ∃ bs, bs = (solvedU r).1 := ⟨_, rfl⟩
  obtain ⟨en, hen⟩ : ∃ en, en = r.1 := ⟨_, rfl⟩
  rw [← hbs] at U1 U2 hsz hfin
  rw [← hen] at U1 U2 hfin
  clear hbs hen
  have U1 := Lib.hid U1
  have U2 := Lib.hid U2
  have HSZ := Lib.hid hsz
  have HFIN := Lib.hid hfin
  clear hsz hfin
  obtain ⟨k10, k11, k12, k13, -⟩ := BoxT.cells (HD.out.2.1)
  obtain ⟨k20, k21, k22, k23, -⟩ := BoxT.cells (HD.out.1)
  have C3 := U1.out w2 (HD.out.2.1).2 (HD.out.1).2
  simp only [Tm.val] at C3
  have C3 := Lib.hid C3
  go_wp2_with fail
  refine C3.out.mono ?_
  rintro e w4 ⟨A3, c3, rfl, hr, hb⟩
  clear C3 k10 k11 k12 k13 k20 k21 k22 k23
  have HF5 := Lib.hid ((Facts.below hb HD.out).add (.binds bs A3 c3) (hr))
  clear HD
  clear hr hb
  obtain ⟨k60, k61, k62, k63, -⟩ := BoxT.cells (HF5.out.2.2.1)
  obtain ⟨k70, k71, k72, k73, -⟩ := BoxT.cells (HF5.out.2.1)
  have C8 := U2.out w4 (HF5.out.2.2.1).2 (HF5.out.2.1).2
  simp only [Tm.val] at C8
  have C8 := Lib.hid C8
  go_wp2_with fail
  refine C8.out.mono ?_
  rintro e w9 ⟨A4, c4, rfl, hr, hb⟩
  clear C8 k60 k61 k62 k63 k70 k71 k72 k73
  have HF10 := Lib.hid ((Facts.below hb HF5.out).add (.binds bs A4 c4) (hr))
  clear HF5
  clear hr hb
  clear U1 U2
  rcases eq_facts en 0 with ⟨e0, e1, n1⟩ | ⟨e0, e1, n1⟩
  · skip
    have hq : (en == en) = true := beq_self_eq_true en
    obtain ⟨hx, hxs⟩ := HFIN.out e0
    obtain ⟨x, hxe⟩ : ∃ x, x = t.rap bs := ⟨_, rfl⟩
    rw [← hxe] at hx hxs
    have HX := Lib.hid hx
    have HXE := Lib.hid hxe
    clear hx hxe
    go_wp2_with fail
    refine wp_region_mix4 (fun _ => True) (fun Y => Below w9.drew.heap.size w9.drew Y) [] (.held 0 (.held 1 (.held 2 (.held 3 (.held 4 (.held 5 (.op 6 (.held 7 (.held 8 (.held 9 (.held 10 (.held 11 (.held 12 (.held 13 (.held 15 (.held 16 (.op 14 (.op 17 (.op 18 (.held 19 (.held 20 (.held 21 .nil)))))))))))))))))))))) mixed (by kernel_rfl) ?_
    have HD12 := Lib.hid (Facts.below (V' := w9.drew) (Below.refl _ _).drew HF10.out)
    have HD12b := Lib.hid HD12.out.rebase
    generalize w9.drew = D11 at *
    refine mix4_take_g (v := .int .i64 en) rfl (by kernel_rfl) rfl (fun _ _ _ h => h) trivial (Facts.bel HD12b.out) (fun Y _ _ => by (try simp only [Act.put]); go_simp) ?_
    simp only [Act.put, List.setIfInBounds_toArray, List.set_cons_succ, List.set_cons_zero, List.getElem_toArray, List.getElem_cons_succ, List.getElem_cons_zero]
    refine mix4_take_g (v := .int .i64 en) rfl (by kernel_rfl) rfl (fun _ _ _ h => h) trivial (Facts.bel HD12b.out) (fun Y _ _ => by (try simp only [Act.put]); go_simp) ?_
    simp only [Act.put, List.setIfInBounds_toArray, List.set_cons_succ, List.set_cons_zero, List.getElem_toArray, List.getElem_cons_succ, List.getElem_cons_zero]
    refine mix4_take_g (v := .bool true) rfl (by kernel_rfl) rfl (fun _ _ _ h => h) trivial (Facts.bel HD12b.out) (fun Y _ _ => by (try simp only [Act.put]); go_simp) ?_
    simp only [Act.put, List.setIfInBounds_toArray, List.set_cons_succ, List.set_cons_zero, List.getElem_toArray, List.getElem_cons_succ, List.getElem_cons_zero]
    refine mix4_take_g (v := .bool true) rfl (by kernel_rfl) rfl (fun _ _ _ h => h) trivial (Facts.bel HD12b.out) (fun Y _ _ => by (try simp only [Act.put]); go_simp) ?_
    simp only [Act.put, List.setIfInBounds_toArray, List.set_cons_succ, List.set_cons_zero, List.getElem_toArray, List.getElem_cons_succ, List.getElem_cons_zero]
    refine mix4_take_g (v := .slice A3 bs.length c3) rfl (by kernel_rfl) rfl (fun _ _ _ h => h) trivial (Facts.bel HD12b.out) (fun Y _ _ => by (try simp only [Act.put]); go_simp) ?_
    simp only [Act.put, List.setIfInBounds_toArray, List.set_cons_succ, List.set_cons_zero, List.getElem_toArray, List.getElem_cons_succ, List.getElem_cons_zero]
    refine mix4_take_g (v := .slice A4 bs.length c4) rfl (by kernel_rfl) rfl (fun _ _ _ h => h) trivial (Facts.bel HD12b.out) (fun Y _ _ => by (try simp only [Act.put]); go_simp) ?_
    simp only [Act.put, List.setIfInBounds_toArray, List.set_cons_succ, List.set_cons_zero, List.getElem_toArray, List.getElem_cons_succ, List.getElem_cons_zero]
    refine mix4_op_g rfl (by kernel_rfl) (fun K hK => ?_)
    have C13 := rsameB3_any bs bs A3 A4 c3 c4 D11 HSZ.out HSZ.out (HD12b.out.2.1) (HD12b.out.1)
    rw [decide_eq_true (rfl : bs = bs)] at C13
    skip
    have C13 := Lib.hid C13
    go_wp2_with fail
    refine C13.out.mono ?_; clear C13
    rintro e w14 ⟨rfl, hb15⟩
    have HF16 := Lib.hid (Facts.below hb15.below HD12b.out)
    refine hK _ _ ⟨⟨fun _ => trivial, Facts.bel HF16.out⟩, ?_⟩
    clear hK K
    clear HD12b
    clear hb15
    refine mix4_take_g (v := .bool true) rfl (by kernel_rfl) rfl (fun _ _ _ h => h) trivial (Facts.bel HF16.out) (fun Y _ _ => by (try simp only [Act.put]); go_simp) ?_
    simp only [Act.put, List.setIfInBounds_toArray, List.set_cons_succ, List.set_cons_zero, List.getElem_toArray, List.getElem_cons_succ, List.getElem_cons_zero]
    refine mix4_take_g (v := .bool true) rfl (by kernel_rfl) rfl (fun _ _ _ h => h) trivial (Facts.bel HF16.out) (fun Y _ _ => by (try simp only [Act.put]); go_simp) ?_
    simp only [Act.put, List.setIfInBounds_toArray, List.set_cons_succ, List.set_cons_zero, List.getElem_toArray, List.getElem_cons_succ, List.getElem_cons_zero]
    refine mix4_take_g (v := .int .i64 en) rfl (by kernel_rfl) rfl (fun _ _ _ h => h) trivial (Facts.bel HF16.out) (fun Y _ _ => by (try simp only [Act.put]); go_simp) ?_
    simp only [Act.put, List.setIfInBounds_toArray, List.set_cons_succ, List.set_cons_zero, List.getElem_toArray, List.getElem_cons_succ, List.getElem_cons_zero]
    refine mix4_take_g (v := .bool false) rfl (by kernel_rfl) rfl (fun _ _ _ h => h) trivial (Facts.bel HF16.out) (fun Y _ _ => by (try simp only [Act.put]); go_simp) ?_
    simp only [Act.put, List.setIfInBounds_toArray, List.set_cons_succ, List.set_cons_zero, List.getElem_toArray, List.getElem_cons_succ, List.getElem_cons_zero]
    refine mix4_take_g (v := .bool false) rfl (by kernel_rfl) rfl (fun _ _ _ h => h) trivial (Facts.bel HF16.out) (fun Y _ _ => by (try simp only [Act.put]); go_simp) ?_
    simp only [Act.put, List.setIfInBounds_toArray, List.set_cons_succ, List.set_cons_zero, List.getElem_toArray, List.getElem_cons_succ, List.getElem_cons_zero]
    refine mix4_take_g (v := .slice A3 bs.length c3) rfl (by kernel_rfl) rfl (fun _ _ _ h => h) trivial (Facts.bel HF16.out) (fun Y _ _ => by (try simp only [Act.put]); go_simp) ?_
    simp only [Act.put, List.setIfInBounds_toArray, List.set_cons_succ, List.set_cons_zero, List.getElem_toArray, List.getElem_cons_succ, List.getElem_cons_zero]
    refine mix4_take_g (v := .agg #[.int .i64 t.kind, .string t.name, .int .i64 t.sort, .slice T t.kids.length ct]) rfl (by kernel_rfl) rfl (fun _ _ _ h => h) trivial (Facts.bel HF16.out) (fun Y _ hY => by
      obtain ⟨z0, z1, z2, z3, -⟩ := BoxT.cells ((show BoxT D11 _ _ _ _ from HD12.out.2.2.2.1).below hY)
      (try simp only [Act.put]); go_simp) ?_
    simp only [Act.put, List.setIfInBounds_toArray, List.set_cons_succ, List.set_cons_zero, List.getElem_toArray, List.getElem_cons_succ, List.getElem_cons_zero]
    refine mix4_take_g (v := .slice A3 bs.length c3) rfl (by kernel_rfl) rfl (fun _ _ _ h => h) trivial (Facts.bel HF16.out) (fun Y _ _ => by (try simp only [Act.put]); go_simp) ?_
    simp only [Act.put, List.setIfInBounds_toArray, List.set_cons_succ, List.set_cons_zero, List.getElem_toArray, List.getElem_cons_succ, List.getElem_cons_zero]
    refine mix4_take_g (v := .agg #[.int .i64 u.kind, .string u.name, .int .i64 u.sort, .slice U u.kids.length cu]) rfl (by kernel_rfl) rfl (fun _ _ _ h => h) trivial (Facts.bel HF16.out) (fun Y _ hY => by
      obtain ⟨z0, z1, z2, z3, -⟩ := BoxT.cells ((show BoxT D11 _ _ _ _ from HD12.out.2.2.1).below hY)
      (try simp only [Act.put]); go_simp) ?_
    simp only [Act.put, List.setIfInBounds_toArray, List.set_cons_succ, List.set_cons_zero, List.getElem_toArray, List.getElem_cons_succ, List.getElem_cons_zero]
    refine mix4_op_g rfl (by kernel_rfl) (fun K hK => ?_)
    have C17 := rapplyF bs t A3 T c3 ct w14 HSZ.out (by omega) (HF16.out.2.1) (HF16.out.2.2.2.1).2
    rw [← HXE.out] at C17
    simp only [Tm.val] at C17
    have C17 := Lib.hid C17
    go_wp2_with fail
    refine C17.out.mono ?_; clear C17
    rintro e w18 ⟨A19, c20, rfl, hr21, hb22⟩
    have HF23 := Lib.hid ((Facts.below hb22 HF16.out).add (.term x A19 c20) hr21)
    refine hK _ _ ⟨⟨fun _ => trivial, Facts.bel HF23.out⟩, ?_⟩
    clear hK K
    clear HF16
    clear hr21 hb22
    refine mix4_op_g rfl (by kernel_rfl) (fun K hK => ?_)
    have C24 := rapplyF bs u A3 U c3 cu w18 HSZ.out (by omega) (HF23.out.2.2.1) (HF23.out.2.2.2.1).2
    rw [← HX.out] at C24
    simp only [Tm.val] at C24
    have C24 := Lib.hid C24
    go_wp2_with fail
    refine C24.out.mono ?_; clear C24
    rintro e w25 ⟨A26, c27, rfl, hr28, hb29⟩
    have HF30 := Lib.hid ((Facts.below hb29 HF23.out).add (.term x A26 c27) hr28)
    refine hK _ _ ⟨⟨fun _ => trivial, Facts.bel HF30.out⟩, ?_⟩
    clear hK K
    clear HF23
    clear hr28 hb29
    refine mix4_op_g rfl (by kernel_rfl) (fun K hK => ?_)
    have C31 := rsame_any x x A19 A26 c20 c27 w25 hxs hxs (HF30.out.2.1) (HF30.out.1)
    rw [Tm.same_iff.2 (rfl : x = x)] at C31
    simp only [Tm.val] at C31
    have C31 := Lib.hid C31
    go_wp2_with fail
    refine C31.out.mono ?_; clear C31
    rintro e w32 ⟨rfl, hb33⟩
    have HF34 := Lib.hid (Facts.below hb33.below HF30.out)
    refine hK _ _ ⟨⟨fun _ => trivial, Facts.bel HF34.out⟩, ?_⟩
    clear hK K
    clear HF30
    clear hb33
    refine mix4_take_g (v := .bool true) rfl (by kernel_rfl) rfl (fun _ _ _ h => h) trivial (Facts.bel HF34.out) (fun Y _ _ => by (try simp only [Act.put]); go_simp) ?_
    simp only [Act.put, List.setIfInBounds_toArray, List.set_cons_succ, List.set_cons_zero, List.getElem_toArray, List.getElem_cons_succ, List.getElem_cons_zero]
    refine mix4_take_g (v := .bool true) rfl (by kernel_rfl) rfl (fun _ _ _ h => h) trivial (Facts.bel HF34.out) (fun Y _ _ => by (try simp only [Act.put]); go_simp) ?_
    simp only [Act.put, List.setIfInBounds_toArray, List.set_cons_succ, List.set_cons_zero, List.getElem_toArray, List.getElem_cons_succ, List.getElem_cons_zero]
    refine mix4_take_g (v := .bool true) rfl (by kernel_rfl) rfl (fun _ _ _ h => h) trivial (Facts.bel HF34.out) (fun Y _ _ => by (try simp only [Act.put]); go_simp) ?_
    simp only [Act.put, List.setIfInBounds_toArray, List.set_cons_succ, List.set_cons_zero, List.getElem_toArray, List.getElem_cons_succ, List.getElem_cons_zero]
    refine mix4_nil ?_
    have HF35 := Lib.hid ((show Facts D11 [.binds bs A4 c4, .binds bs A3 c3, .box (b0 + 1) u U cu, .box b0 t T ct] w32 from ⟨HF34.out.2.2.1, HF34.out.2.2.2.1, HF34.out.2.2.2.2.1, HF34.out.2.2.2.2.2.1, Facts.bel HF34.out⟩).unbase (Facts.bel HD12.out))
    clear HF34 HD12
    go_wp2_with fail
    go_ret
    exact ⟨rfl, Facts.bel HF35.out⟩
  · skip
    have hq : (en == en) = true := beq_self_eq_true en
    go_wp2_with fail
    refine wp_region_mix4 (fun _ => True) (fun Y => Below w9.drew.heap.size w9.drew Y) [] (.held 0 (.held 1 (.held 2 (.held 3 (.held 4 (.held 5 (.op 6 (.held 7 (.held 8 (.held 9 (.held 10 (.held 11 (.held 12 (.held 13 (.held 14 (.held 15 (.held 16 (.held 17 (.held 18 (.held 19 (.held 20 (.held 21 .nil)))))))))))))))))))))) mixed (by kernel_rfl) ?_
    have HD37 := Lib.hid (Facts.below (V' := w9.drew) (Below.refl _ _).drew HF10.out)
    have HD37b := Lib.hid HD37.out.rebase
    generalize w9.drew = D36 at *
    refine mix4_take_g (v := .int .i64 en) rfl (by kernel_rfl) rfl (fun _ _ _ h => h) trivial (Facts.bel HD37b.out) (fun Y _ _ => by (try simp only [Act.put]); go_simp) ?_
    simp only [Act.put, List.setIfInBounds_toArray, List.set_cons_succ, List.set_cons_zero, List.getElem_toArray, List.getElem_cons_succ, List.getElem_cons_zero]
    refine mix4_take_g (v := .int .i64 en) rfl (by kernel_rfl) rfl (fun _ _ _ h => h) trivial (Facts.bel HD37b.out) (fun Y _ _ => by (try simp only [Act.put]); go_simp) ?_
    simp only [Act.put, List.setIfInBounds_toArray, List.set_cons_succ, List.set_cons_zero, List.getElem_toArray, List.getElem_cons_succ, List.getElem_cons_zero]
    refine mix4_take_g (v := .bool true) rfl (by kernel_rfl) rfl (fun _ _ _ h => h) trivial (Facts.bel HD37b.out) (fun Y _ _ => by (try simp only [Act.put]); go_simp) ?_
    simp only [Act.put, List.setIfInBounds_toArray, List.set_cons_succ, List.set_cons_zero, List.getElem_toArray, List.getElem_cons_succ, List.getElem_cons_zero]
    refine mix4_take_g (v := .bool true) rfl (by kernel_rfl) rfl (fun _ _ _ h => h) trivial (Facts.bel HD37b.out) (fun Y _ _ => by (try simp only [Act.put]); go_simp) ?_
    simp only [Act.put, List.setIfInBounds_toArray, List.set_cons_succ, List.set_cons_zero, List.getElem_toArray, List.getElem_cons_succ, List.getElem_cons_zero]
    refine mix4_take_g (v := .slice A3 bs.length c3) rfl (by kernel_rfl) rfl (fun _ _ _ h => h) trivial (Facts.bel HD37b.out) (fun Y _ _ => by (try simp only [Act.put]); go_simp) ?_
    simp only [Act.put, List.setIfInBounds_toArray, List.set_cons_succ, List.set_cons_zero, List.getElem_toArray, List.getElem_cons_succ, List.getElem_cons_zero]
    refine mix4_take_g (v := .slice A4 bs.length c4) rfl (by kernel_rfl) rfl (fun _ _ _ h => h) trivial (Facts.bel HD37b.out) (fun Y _ _ => by (try simp only [Act.put]); go_simp) ?_
    simp only [Act.put, List.setIfInBounds_toArray, List.set_cons_succ, List.set_cons_zero, List.getElem_toArray, List.getElem_cons_succ, List.getElem_cons_zero]
    refine mix4_op_g rfl (by kernel_rfl) (fun K hK => ?_)
    have C38 := rsameB3_any bs bs A3 A4 c3 c4 D36 HSZ.out HSZ.out (HD37b.out.2.1) (HD37b.out.1)
    rw [decide_eq_true (rfl : bs = bs)] at C38
    skip
    have C38 := Lib.hid C38
    go_wp2_with fail
    refine C38.out.mono ?_; clear C38
    rintro e w39 ⟨rfl, hb40⟩
    have HF41 := Lib.hid (Facts.below hb40.below HD37b.out)
    refine hK _ _ ⟨⟨fun _ => trivial, Facts.bel HF41.out⟩, ?_⟩
    clear hK K
    clear HD37b
    clear hb40
    refine mix4_take_g (v := .bool true) rfl (by kernel_rfl) rfl (fun _ _ _ h => h) trivial (Facts.bel HF41.out) (fun Y _ _ => by (try simp only [Act.put]); go_simp) ?_
    simp only [Act.put, List.setIfInBounds_toArray, List.set_cons_succ, List.set_cons_zero, List.getElem_toArray, List.getElem_cons_succ, List.getElem_cons_zero]
    refine mix4_take_g (v := .bool true) rfl (by kernel_rfl) rfl (fun _ _ _ h => h) trivial (Facts.bel HF41.out) (fun Y _ _ => by (try simp only [Act.put]); go_simp) ?_
    simp only [Act.put, List.setIfInBounds_toArray, List.set_cons_succ, List.set_cons_zero, List.getElem_toArray, List.getElem_cons_succ, List.getElem_cons_zero]
    refine mix4_take_g (v := .int .i64 en) rfl (by kernel_rfl) rfl (fun _ _ _ h => h) trivial (Facts.bel HF41.out) (fun Y _ _ => by (try simp only [Act.put]); go_simp) ?_
    simp only [Act.put, List.setIfInBounds_toArray, List.set_cons_succ, List.set_cons_zero, List.getElem_toArray, List.getElem_cons_succ, List.getElem_cons_zero]
    refine mix4_take_g (v := .bool true) rfl (by kernel_rfl) rfl (fun _ _ _ h => h) trivial (Facts.bel HF41.out) (fun Y _ _ => by (try simp only [Act.put]); go_simp) ?_
    simp only [Act.put, List.setIfInBounds_toArray, List.set_cons_succ, List.set_cons_zero, List.getElem_toArray, List.getElem_cons_succ, List.getElem_cons_zero]
    refine mix4_take_g (v := .bool true) rfl (by kernel_rfl) rfl (fun _ _ _ h => h) trivial (Facts.bel HF41.out) (fun Y _ _ => by (try simp only [Act.put]); go_simp) ?_
    simp only [Act.put, List.setIfInBounds_toArray, List.set_cons_succ, List.set_cons_zero, List.getElem_toArray, List.getElem_cons_succ, List.getElem_cons_zero]
    refine mix4_off rfl (by kernel_rfl) rfl (fun _ _ _ h => h) trivial (Facts.bel HF41.out) ?_
    simp only [Act.put, List.setIfInBounds_toArray, List.set_cons_succ, List.set_cons_zero, List.getElem_toArray, List.getElem_cons_succ, List.getElem_cons_zero]
    refine mix4_off rfl (by kernel_rfl) rfl (fun _ _ _ h => h) trivial (Facts.bel HF41.out) ?_
    simp only [Act.put, List.setIfInBounds_toArray, List.set_cons_succ, List.set_cons_zero, List.getElem_toArray, List.getElem_cons_succ, List.getElem_cons_zero]
    refine mix4_off rfl (by kernel_rfl) rfl (fun _ _ _ h => h) trivial (Facts.bel HF41.out) ?_
    simp only [Act.put, List.setIfInBounds_toArray, List.set_cons_succ, List.set_cons_zero, List.getElem_toArray, List.getElem_cons_succ, List.getElem_cons_zero]
    refine mix4_off rfl (by kernel_rfl) rfl (fun _ _ _ h => h) trivial (Facts.bel HF41.out) ?_
    simp only [Act.put, List.setIfInBounds_toArray, List.set_cons_succ, List.set_cons_zero, List.getElem_toArray, List.getElem_cons_succ, List.getElem_cons_zero]
    refine mix4_off rfl (by kernel_rfl) rfl (fun _ _ _ h => h) trivial (Facts.bel HF41.out) ?_
    simp only [Act.put, List.setIfInBounds_toArray, List.set_cons_succ, List.set_cons_zero, List.getElem_toArray, List.getElem_cons_succ, List.getElem_cons_zero]
    refine mix4_off rfl (by kernel_rfl) rfl (fun _ _ _ h => h) trivial (Facts.bel HF41.out) ?_
    simp only [Act.put, List.setIfInBounds_toArray, List.set_cons_succ, List.set_cons_zero, List.getElem_toArray, List.getElem_cons_succ, List.getElem_cons_zero]
    refine mix4_off rfl (by kernel_rfl) rfl (fun _ _ _ h => h) trivial (Facts.bel HF41.out) ?_
    simp only [Act.put, List.setIfInBounds_toArray, List.set_cons_succ, List.set_cons_zero, List.getElem_toArray, List.getElem_cons_succ, List.getElem_cons_zero]
    refine mix4_take_g (v := .bool true) rfl (by kernel_rfl) rfl (fun _ _ _ h => h) trivial (Facts.bel HF41.out) (fun Y _ _ => by (try simp only [Act.put]); go_simp) ?_
    simp only [Act.put, List.setIfInBounds_toArray, List.set_cons_succ, List.set_cons_zero, List.getElem_toArray, List.getElem_cons_succ, List.getElem_cons_zero]
    refine mix4_take_g (v := .bool true) rfl (by kernel_rfl) rfl (fun _ _ _ h => h) trivial (Facts.bel HF41.out) (fun Y _ _ => by (try simp only [Act.put]); go_simp) ?_
    simp only [Act.put, List.setIfInBounds_toArray, List.set_cons_succ, List.set_cons_zero, List.getElem_toArray, List.getElem_cons_succ, List.getElem_cons_zero]
    refine mix4_take_g (v := .bool true) rfl (by kernel_rfl) rfl (fun _ _ _ h => h) trivial (Facts.bel HF41.out) (fun Y _ _ => by (try simp only [Act.put]); go_simp) ?_
    simp only [Act.put, List.setIfInBounds_toArray, List.set_cons_succ, List.set_cons_zero, List.getElem_toArray, List.getElem_cons_succ, List.getElem_cons_zero]
    refine mix4_nil ?_
    have HF42 := Lib.hid ((show Facts D36 [.binds bs A4 c4, .binds bs A3 c3, .box (b0 + 1) u U cu, .box b0 t T ct] w39 from ⟨HF41.out.1, HF41.out.2.1, HF41.out.2.2.1, HF41.out.2.2.2.1, Facts.bel HF41.out⟩).unbase (Facts.bel HD37.out))
    clear HF41 HD37
    go_wp2_with fail
    go_ret
    exact ⟨rfl, Facts.bel HF42.out⟩
end Go.Proofs.YtmajbopjaejliaaGreatDoor
