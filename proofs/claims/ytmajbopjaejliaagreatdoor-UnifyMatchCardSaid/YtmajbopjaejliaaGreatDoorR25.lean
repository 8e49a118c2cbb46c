/- UmatchLaw (joined by shake.py). -/
import Derived.Test.YtmajbopjaejliaaGreatDoorR18
import Derived.Test.YtmajbopjaejliaaGreatDoorR22
import Derived.Test.YtmajbopjaejliaaGreatDoorR23
import Derived.Test.YtmajbopjaejliaaGreatDoorR24
namespace Go.Proofs.YtmajbopjaejliaaGreatDoor
open Go.RowKit Go.Sort
attribute [local irreducible] wpMix4
set_option linter.unusedSimpArgs false in
set_option linter.unusedVariables false in
set_option maxHeartbeats 40000000 in
set_option maxRecDepth 100000 in
theorem umatch_law (t u : Tm) (T U : Option Addr) (ct cu : Nat) (w : World) (rt : RepT w w.heap.size t T ct) (ru : RepT w w.heap.size u U cu) :
    Calls Tryz.prog 6 #[t.val T ct, u.val U cu] w fun e w' => e = .returned (.bool true) ∧ Below w.heap.size w w' := by
  have mixed : Tryz.prog.follows .mixedOrders = true := by kernel_rfl
  have HF := Lib.hid (show Facts w [] w from Below.refl _ _)
  obtain ⟨V, hV⟩ : ∃ V, V = (w.alloc (boxOf t T ct)).alloc (boxOf u U cu) := ⟨_, rfl⟩
  have HA := HF.out.boxes2 rt ru
  rw [← hV] at HA
  obtain ⟨b0, hb0⟩ : ∃ b, b = w.heap.size := ⟨_, rfl⟩
  have hb0w : w.heap.size ≤ b0 := by omega
  simp only [boxOf] at hV
  have HV := Lib.hid hV
  have HA := Lib.hid HA
  clear hV HF rt ru
  simp only [Tm.val]
  go_enter Tryz.func6, Tryz.ntmps6
  go_wp2_with fail
  rw [← HV.out, ← hb0]
  rw [← hb0] at HA
  clear HV hb0
  refine (uawake_any w V (Facts.bel HA.out) (itoa_small w)).mono ?_
  rintro e w1 ⟨rfl, hb1⟩
  have HB := Lib.hid (Facts.below hb1 HA.out)
  clear HA hb1
  obtain ⟨a0, a1, a2, a3, -⟩ := BoxT.cells HB.out.2.1
  obtain ⟨c0, c1, c2, c3, -⟩ := BoxT.cells HB.out.1
  obtain ⟨Z, hZ⟩ : ∃ Z, Z = w1.alloc (.cells (itCells [(t, T, ct), (u, U, cu)]).toArray 24) := ⟨_, rfl⟩
  have HC := Lib.hid (HB.out.slice _ hZ (by simp) (fun x hx => by
    simp only [List.mem_cons, List.not_mem_nil, or_false] at hx
    rcases hx with rfl | rfl
    · exact HB.out.2.1.2
    · exact HB.out.1.2))
  simp only [itCells, Tm.cells, List.cons_append, List.nil_append] at hZ
  have HZ := Lib.hid hZ
  clear hZ HB
  go_wp2_with fail
  rw [← HZ.out]
  refine (few_any [t, u] _ 2 2 450 Z (by decide) (by decide) HC.out.1).mono ?_
  rintro e w2 ⟨rfl, hl2⟩
  have HD := Lib.hid (Facts.below hl2.below HC.out.2)
  clear HZ HC hl2 a0 a1 a2 a3 c0 c1 c2 c3
  by_cases hle : (([t, u] : List Tm).length : Int) ≤ 2 ∧ 0 ≤ Tm.lefts [t, u] 450
  rotate_left
  · rw [decide_eq_false hle]
    go_wp2_with fail
    refine (uawake_any w w2 (Facts.bel HD.out) (itoa_small w)).mono ?_
    rintro e w3 ⟨rfl, hb3⟩
    go_wp2_with fail
    go_ret
    exact ⟨rfl, Facts.bel (Facts.below hb3 HD.out)⟩
  have hsz := Tm.lefts_each (by decide) hle.2
  have st : t.size ≤ 450 := by have := hsz t (by simp); omega
  have su : u.size ≤ 450 := by have := hsz u (by simp); omega
  rw [decide_eq_true hle]
  clear hle hsz
  obtain ⟨r, hr⟩ : ∃ r, r = matchE t u := ⟨_, rfl⟩
  have hsz : SizeB r.1 := by rw [hr]; exact matchE_size
  have hfin : r.2 = 0 → t.rap r.1 = u := fun h => by rw [hr] at h ⊢; exact matchE_makes h
  have U1 : ∀ (Z : World), RepT Z Z.heap.size t T ct → RepT Z Z.heap.size u U cu → Calls Tryz.prog 21 #[t.val T ct, u.val U cu] Z (MatchedE r Z) := fun Z ha hb => by rw [hr]; exact umatchE_any t u T U ct cu Z (by omega) (by omega) ha hb
  have U2 : ∀ (Z : World), RepT Z Z.heap.size t T ct → RepT Z Z.heap.size u U cu → Calls Tryz.prog 22 #[t.val T ct, u.val U cu] Z (MatchedE r Z) := fun Z ha hb => by rw [hr, ← matchR_eq]; exact rmatchE_any t u T U ct cu Z (by omega) (by omega) ha hb
  have U3 : ∀ (Z : World), RepT Z Z.heap.size t T ct → RepT Z Z.heap.size u U cu → Calls Tryz.prog 23 #[u.val U cu, t.val T ct] Z (fun e w' => e = .returned (.bool (r.2 == 0)) ∧ Below Z.heap.size Z w') := fun Z ha hb => by rw [hr]; exact uinst_any u t U T cu ct Z (by omega) (by omega) hb ha
  clear hr
  obtain ⟨bs, en⟩ := r
  unfold MatchedE at U1 U2
  dsimp only at U1 U2 U3 hsz hfin
  have U1 := Lib.hid U1
  have U2 := Lib.hid U2
  have U3 := Lib.hid U3
  have HSZ := Lib.hid hsz
  have HFIN := Lib.hid hfin
  clear hsz hfin
  obtain ⟨k10, k11, k12, k13, -⟩ := BoxT.cells (HD.out.2.1)
  obtain ⟨k20, k21, k22, k23, -⟩ := BoxT.cells (HD.out.1)
  have C3 := U1.out w2 (HD.out.2.1).2 (HD.out.1).2
  simp only [Tm.val] at C3
  have C3 := Lib.hid C3
  go_wp2_with fail
  refine C3.out.mono ?_
  rintro e w4 ⟨A3, c3, rfl, hr, hb⟩
  clear C3 k10 k11 k12 k13 k20 k21 k22 k23
  have HF5 := Lib.hid ((Facts.below hb HD.out).add (.binds bs A3 c3) (hr))
  clear HD
  clear hr hb
  obtain ⟨k60, k61, k62, k63, -⟩ := BoxT.cells (HF5.out.2.2.1)
  obtain ⟨k70, k71, k72, k73, -⟩ := BoxT.cells (HF5.out.2.1)
  have C8 := U2.out w4 (HF5.out.2.2.1).2 (HF5.out.2.1).2
  simp only [Tm.val] at C8
  have C8 := Lib.hid C8
  go_wp2_with fail
  refine C8.out.mono ?_
  rintro e w9 ⟨A4, c4, rfl, hr, hb⟩
  clear C8 k60 k61 k62 k63 k70 k71 k72 k73
  have HF10 := Lib.hid ((Facts.below hb HF5.out).add (.binds bs A4 c4) (hr))
  clear HF5
  clear hr hb
  clear U1 U2
  rcases eq_facts en 0 with ⟨e0, e1, n1⟩ | ⟨e0, e1, n1⟩
  · skip
    have hq : (en == en) = true := beq_self_eq_true en
    have HX := Lib.hid (HFIN.out e0)
    have hz : (en == 0) = true := by rw [e0]; rfl
    have HZ := Lib.hid hz
    clear hz
    go_wp2_with fail
    refine wp_region_mix4 (fun _ => True) (fun Y => Below w9.drew.heap.size w9.drew Y) [] (.held 0 (.held 1 (.held 2 (.held 3 (.held 4 (.held 5 (.op 6 (.held 7 (.held 8 (.held 9 (.held 10 (.held 12 (.held 13 (.op 11 (.held 14 (.held 15 (.held 16 (.held 17 (.held 18 (.held 19 (.held 20 (.held 21 (.held 23 (.op 22 (.op 24 (.held 25 (.held 26 (.held 27 .nil)))))))))))))))))))))))))))) mixed (by kernel_rfl) ?_
    have HD12 := Lib.hid (Facts.below (V' := w9.drew) (Below.refl _ _).drew HF10.out)
    have HD12b := Lib.hid HD12.out.rebase
    generalize w9.drew = D11 at *
    refine mix4_take_g (v := .int .i64 en) rfl (by kernel_rfl) rfl (fun _ _ _ h => h) trivial (Facts.bel HD12b.out) (fun Y _ _ => by (try simp only [Act.put]); go_simp) ?_
    simp only [Act.put, List.setIfInBounds_toArray, List.set_cons_succ, List.set_cons_zero, List.getElem_toArray, List.getElem_cons_succ, List.getElem_cons_zero]
    refine mix4_take_g (v := .int .i64 en) rfl (by kernel_rfl) rfl (fun _ _ _ h => h) trivial (Facts.bel HD12b.out) (fun Y _ _ => by (try simp only [Act.put]); go_simp) ?_
    simp only [Act.put, List.setIfInBounds_toArray, List.set_cons_succ, List.set_cons_zero, List.getElem_toArray, List.getElem_cons_succ, List.getElem_cons_zero]
    refine mix4_take_g (v := .bool true) rfl (by kernel_rfl) rfl (fun _ _ _ h => h) trivial (Facts.bel HD12b.out) (fun Y _ _ => by (try simp only [Act.put]); go_simp) ?_
    simp only [Act.put, List.setIfInBounds_toArray, List.set_cons_succ, List.set_cons_zero, List.getElem_toArray, List.getElem_cons_succ, List.getElem_cons_zero]
    refine mix4_take_g (v := .bool true) rfl (by kernel_rfl) rfl (fun _ _ _ h => h) trivial (Facts.bel HD12b.out) (fun Y _ _ => by (try simp only [Act.put]); go_simp) ?_
    simp only [Act.put, List.setIfInBounds_toArray, List.set_cons_succ, List.set_cons_zero, List.getElem_toArray, List.getElem_cons_succ, List.getElem_cons_zero]
    refine mix4_take_g (v := .slice A3 bs.length c3) rfl (by kernel_rfl) rfl (fun _ _ _ h => h) trivial (Facts.bel HD12b.out) (fun Y _ _ => by (try simp only [Act.put]); go_simp) ?_
    simp only [Act.put, List.setIfInBounds_toArray, List.set_cons_succ, List.set_cons_zero, List.getElem_toArray, List.getElem_cons_succ, List.getElem_cons_zero]
    refine mix4_take_g (v := .slice A4 bs.length c4) rfl (by kernel_rfl) rfl (fun _ _ _ h => h) trivial (Facts.bel HD12b.out) (fun Y _ _ => by (try simp only [Act.put]); go_simp) ?_
    simp only [Act.put, List.setIfInBounds_toArray, List.set_cons_succ, List.set_cons_zero, List.getElem_toArray, List.getElem_cons_succ, List.getElem_cons_zero]
    refine mix4_op_g rfl (by kernel_rfl) (fun K hK => ?_)
    have C13 := rsameB3_any bs bs A3 A4 c3 c4 D11 HSZ.out HSZ.out (HD12b.out.2.1) (HD12b.out.1)
    rw [decide_eq_true (rfl : bs = bs)] at C13
    skip
    have C13 := Lib.hid C13
    go_wp2_with fail
    refine C13.out.mono ?_; clear C13
    rintro e w14 ⟨rfl, hb15⟩
    have HF16 := Lib.hid (Facts.below hb15.below HD12b.out)
    refine hK _ _ ⟨⟨fun _ => trivial, Facts.bel HF16.out⟩, ?_⟩
    clear hK K
    clear HD12b
    clear hb15
    refine mix4_take_g (v := .bool true) rfl (by kernel_rfl) rfl (fun _ _ _ h => h) trivial (Facts.bel HF16.out) (fun Y _ _ => by (try simp only [Act.put]); go_simp) ?_
    simp only [Act.put, List.setIfInBounds_toArray, List.set_cons_succ, List.set_cons_zero, List.getElem_toArray, List.getElem_cons_succ, List.getElem_cons_zero]
    refine mix4_take_g (v := .bool true) rfl (by kernel_rfl) rfl (fun _ _ _ h => h) trivial (Facts.bel HF16.out) (fun Y _ _ => by (try simp only [Act.put]); go_simp) ?_
    simp only [Act.put, List.setIfInBounds_toArray, List.set_cons_succ, List.set_cons_zero, List.getElem_toArray, List.getElem_cons_succ, List.getElem_cons_zero]
    refine mix4_take_g (v := .agg #[.int .i64 u.kind, .string u.name, .int .i64 u.sort, .slice U u.kids.length cu]) rfl (by kernel_rfl) rfl (fun _ _ _ h => h) trivial (Facts.bel HF16.out) (fun Y _ hY => by
      obtain ⟨z0, z1, z2, z3, -⟩ := BoxT.cells ((show BoxT D11 _ _ _ _ from HD12.out.2.2.1).below hY)
      (try simp only [Act.put]); go_simp) ?_
    simp only [Act.put, List.setIfInBounds_toArray, List.set_cons_succ, List.set_cons_zero, List.getElem_toArray, List.getElem_cons_succ, List.getElem_cons_zero]
    refine mix4_take_g (v := .agg #[.int .i64 t.kind, .string t.name, .int .i64 t.sort, .slice T t.kids.length ct]) rfl (by kernel_rfl) rfl (fun _ _ _ h => h) trivial (Facts.bel HF16.out) (fun Y _ hY => by
      obtain ⟨z0, z1, z2, z3, -⟩ := BoxT.cells ((show BoxT D11 _ _ _ _ from HD12.out.2.2.2.1).below hY)
      (try simp only [Act.put]); go_simp) ?_
    simp only [Act.put, List.setIfInBounds_toArray, List.set_cons_succ, List.set_cons_zero, List.getElem_toArray, List.getElem_cons_succ, List.getElem_cons_zero]
    refine mix4_take_g (v := .int .i64 en) rfl (by kernel_rfl) rfl (fun _ _ _ h => h) trivial (Facts.bel HF16.out) (fun Y _ _ => by (try simp only [Act.put]); go_simp) ?_
    simp only [Act.put, List.setIfInBounds_toArray, List.set_cons_succ, List.set_cons_zero, List.getElem_toArray, List.getElem_cons_succ, List.getElem_cons_zero]
    refine mix4_take_g (v := .bool true) rfl (by kernel_rfl) rfl (fun _ _ _ h => h) trivial (Facts.bel HF16.out) (fun Y _ _ => by (try simp only [Act.put]); go_simp) ?_
    simp only [Act.put, List.setIfInBounds_toArray, List.set_cons_succ, List.set_cons_zero, List.getElem_toArray, List.getElem_cons_succ, List.getElem_cons_zero]
    refine mix4_op_g rfl (by kernel_rfl) (fun K hK => ?_)
    have C17 := U3.out w14 (HF16.out.2.2.2.1).2 (HF16.out.2.2.1).2
    rw [HZ.out] at C17
    simp only [Tm.val] at C17
    have C17 := Lib.hid C17
    go_wp2_with fail
    refine C17.out.mono ?_; clear C17
    rintro e w18 ⟨rfl, hb19⟩
    have HF20 := Lib.hid (Facts.below hb19 HF16.out)
    refine hK _ _ ⟨⟨fun _ => trivial, Facts.bel HF20.out⟩, ?_⟩
    clear hK K
    clear HF16
    clear hb19
    refine mix4_take_g (v := .bool true) rfl (by kernel_rfl) rfl (fun _ _ _ h => h) trivial (Facts.bel HF20.out) (fun Y _ _ => by (try simp only [Act.put]); go_simp) ?_
    simp only [Act.put, List.setIfInBounds_toArray, List.set_cons_succ, List.set_cons_zero, List.getElem_toArray, List.getElem_cons_succ, List.getElem_cons_zero]
    refine mix4_take_g (v := .bool true) rfl (by kernel_rfl) rfl (fun _ _ _ h => h) trivial (Facts.bel HF20.out) (fun Y _ _ => by (try simp only [Act.put]); go_simp) ?_
    simp only [Act.put, List.setIfInBounds_toArray, List.set_cons_succ, List.set_cons_zero, List.getElem_toArray, List.getElem_cons_succ, List.getElem_cons_zero]
    refine mix4_take_g (v := .bool true) rfl (by kernel_rfl) rfl (fun _ _ _ h => h) trivial (Facts.bel HF20.out) (fun Y _ _ => by (try simp only [Act.put]); go_simp) ?_
    simp only [Act.put, List.setIfInBounds_toArray, List.set_cons_succ, List.set_cons_zero, List.getElem_toArray, List.getElem_cons_succ, List.getElem_cons_zero]
    refine mix4_take_g (v := .int .i64 en) rfl (by kernel_rfl) rfl (fun _ _ _ h => h) trivial (Facts.bel HF20.out) (fun Y _ _ => by (try simp only [Act.put]); go_simp) ?_
    simp only [Act.put, List.setIfInBounds_toArray, List.set_cons_succ, List.set_cons_zero, List.getElem_toArray, List.getElem_cons_succ, List.getElem_cons_zero]
    refine mix4_take_g (v := .bool false) rfl (by kernel_rfl) rfl (fun _ _ _ h => h) trivial (Facts.bel HF20.out) (fun Y _ _ => by (try simp only [Act.put]); go_simp) ?_
    simp only [Act.put, List.setIfInBounds_toArray, List.set_cons_succ, List.set_cons_zero, List.getElem_toArray, List.getElem_cons_succ, List.getElem_cons_zero]
    refine mix4_take_g (v := .bool false) rfl (by kernel_rfl) rfl (fun _ _ _ h => h) trivial (Facts.bel HF20.out) (fun Y _ _ => by (try simp only [Act.put]); go_simp) ?_
    simp only [Act.put, List.setIfInBounds_toArray, List.set_cons_succ, List.set_cons_zero, List.getElem_toArray, List.getElem_cons_succ, List.getElem_cons_zero]
    refine mix4_take_g (v := .slice A3 bs.length c3) rfl (by kernel_rfl) rfl (fun _ _ _ h => h) trivial (Facts.bel HF20.out) (fun Y _ _ => by (try simp only [Act.put]); go_simp) ?_
    simp only [Act.put, List.setIfInBounds_toArray, List.set_cons_succ, List.set_cons_zero, List.getElem_toArray, List.getElem_cons_succ, List.getElem_cons_zero]
    refine mix4_take_g (v := .agg #[.int .i64 t.kind, .string t.name, .int .i64 t.sort, .slice T t.kids.length ct]) rfl (by kernel_rfl) rfl (fun _ _ _ h => h) trivial (Facts.bel HF20.out) (fun Y _ hY => by
      obtain ⟨z0, z1, z2, z3, -⟩ := BoxT.cells ((show BoxT D11 _ _ _ _ from HD12.out.2.2.2.1).below hY)
      (try simp only [Act.put]); go_simp) ?_
    simp only [Act.put, List.setIfInBounds_toArray, List.set_cons_succ, List.set_cons_zero, List.getElem_toArray, List.getElem_cons_succ, List.getElem_cons_zero]
    refine mix4_take_g (v := .agg #[.int .i64 u.kind, .string u.name, .int .i64 u.sort, .slice U u.kids.length cu]) rfl (by kernel_rfl) rfl (fun _ _ _ h => h) trivial (Facts.bel HF20.out) (fun Y _ hY => by
      obtain ⟨z0, z1, z2, z3, -⟩ := BoxT.cells ((show BoxT D11 _ _ _ _ from HD12.out.2.2.1).below hY)
      (try simp only [Act.put]); go_simp) ?_
    simp only [Act.put, List.setIfInBounds_toArray, List.set_cons_succ, List.set_cons_zero, List.getElem_toArray, List.getElem_cons_succ, List.getElem_cons_zero]
    refine mix4_op_g rfl (by kernel_rfl) (fun K hK => ?_)
    have C21 := rapplyF bs t A3 T c3 ct w18 HSZ.out (by omega) (HF20.out.2.1) (HF20.out.2.2.2.1).2
    rw [HX.out] at C21
    simp only [Tm.val] at C21
    have C21 := Lib.hid C21
    go_wp2_with fail
    refine C21.out.mono ?_; clear C21
    rintro e w22 ⟨A23, c24, rfl, hr25, hb26⟩
    have HF27 := Lib.hid ((Facts.below hb26 HF20.out).add (.term u A23 c24) hr25)
    refine hK _ _ ⟨⟨fun _ => trivial, Facts.bel HF27.out⟩, ?_⟩
    clear hK K
    clear HF20
    clear hr25 hb26
    refine mix4_op_g rfl (by kernel_rfl) (fun K hK => ?_)
    have C28 := rsame_any u u A23 U c24 cu w22 (by omega) (by omega) (HF27.out.1) (HF27.out.2.2.2.1).2
    rw [Tm.same_iff.2 (rfl : u = u)] at C28
    simp only [Tm.val] at C28
    have C28 := Lib.hid C28
    go_wp2_with fail
    refine C28.out.mono ?_; clear C28
    rintro e w29 ⟨rfl, hb30⟩
    have HF31 := Lib.hid (Facts.below hb30.below HF27.out)
    refine hK _ _ ⟨⟨fun _ => trivial, Facts.bel HF31.out⟩, ?_⟩
    clear hK K
    clear HF27
    clear hb30
    refine mix4_take_g (v := .bool true) rfl (by kernel_rfl) rfl (fun _ _ _ h => h) trivial (Facts.bel HF31.out) (fun Y _ _ => by (try simp only [Act.put]); go_simp) ?_
    simp only [Act.put, List.setIfInBounds_toArray, List.set_cons_succ, List.set_cons_zero, List.getElem_toArray, List.getElem_cons_succ, List.getElem_cons_zero]
    refine mix4_take_g (v := .bool true) rfl (by kernel_rfl) rfl (fun _ _ _ h => h) trivial (Facts.bel HF31.out) (fun Y _ _ => by (try simp only [Act.put]); go_simp) ?_
    simp only [Act.put, List.setIfInBounds_toArray, List.set_cons_succ, List.set_cons_zero, List.getElem_toArray, List.getElem_cons_succ, List.getElem_cons_zero]
    refine mix4_take_g (v := .bool true) rfl (by kernel_rfl) rfl (fun _ _ _ h => h) trivial (Facts.bel HF31.out) (fun Y _ _ => by (try simp only [Act.put]); go_simp) ?_
    simp only [Act.put, List.setIfInBounds_toArray, List.set_cons_succ, List.set_cons_zero, List.getElem_toArray, List.getElem_cons_succ, List.getElem_cons_zero]
    refine mix4_nil ?_
    have HF32 := Lib.hid ((show Facts D11 [.binds bs A4 c4, .binds bs A3 c3, .box (b0 + 1) u U cu, .box b0 t T ct] w29 from ⟨HF31.out.2.1, HF31.out.2.2.1, HF31.out.2.2.2.1, HF31.out.2.2.2.2.1, Facts.bel HF31.out⟩).unbase (Facts.bel HD12.out))
    clear HF31 HD12
    go_wp2_with fail
    go_ret
    exact ⟨rfl, Facts.bel HF32.out⟩
  · skip
    have hq : (en == en) = true := beq_self_eq_true en
    have hz : (en == 0) = false := by simpa using e0
    have HZ := Lib.hid hz
    clear hz
    go_wp2_with fail
    refine wp_region_mix4 (fun _ => True) (fun Y => Below w9.drew.heap.size w9.drew Y) [] (.held 0 (.held 1 (.held 2 (.held 3 (.held 4 (.held 5 (.op 6 (.held 7 (.held 8 (.held 9 (.held 10 (.held 12 (.held 13 (.op 11 (.held 14 (.held 15 (.held 16 (.held 17 (.held 18 (.held 19 (.held 20 (.held 21 (.held 22 (.held 23 (.held 24 (.held 25 (.held 26 (.held 27 .nil)))))))))))))))))))))))))))) mixed (by kernel_rfl) ?_
    have HD34 := Lib.hid (Facts.below (V' := w9.drew) (Below.refl _ _).drew HF10.out)
    have HD34b := Lib.hid HD34.out.rebase
    generalize w9.drew = D33 at *
    refine mix4_take_g (v := .int .i64 en) rfl (by kernel_rfl) rfl (fun _ _ _ h => h) trivial (Facts.bel HD34b.out) (fun Y _ _ => by (try simp only [Act.put]); go_simp) ?_
    simp only [Act.put, List.setIfInBounds_toArray, List.set_cons_succ, List.set_cons_zero, List.getElem_toArray, List.getElem_cons_succ, List.getElem_cons_zero]
    refine mix4_take_g (v := .int .i64 en) rfl (by kernel_rfl) rfl (fun _ _ _ h => h) trivial (Facts.bel HD34b.out) (fun Y _ _ => by (try simp only [Act.put]); go_simp) ?_
    simp only [Act.put, List.setIfInBounds_toArray, List.set_cons_succ, List.set_cons_zero, List.getElem_toArray, List.getElem_cons_succ, List.getElem_cons_zero]
    refine mix4_take_g (v := .bool true) rfl (by kernel_rfl) rfl (fun _ _ _ h => h) trivial (Facts.bel HD34b.out) (fun Y _ _ => by (try simp only [Act.put]); go_simp) ?_
    simp only [Act.put, List.setIfInBounds_toArray, List.set_cons_succ, List.set_cons_zero, List.getElem_toArray, List.getElem_cons_succ, List.getElem_cons_zero]
    refine mix4_take_g (v := .bool true) rfl (by kernel_rfl) rfl (fun _ _ _ h => h) trivial (Facts.bel HD34b.out) (fun Y _ _ => by (try simp only [Act.put]); go_simp) ?_
    simp only [Act.put, List.setIfInBounds_toArray, List.set_cons_succ, List.set_cons_zero, List.getElem_toArray, List.getElem_cons_succ, List.getElem_cons_zero]
    refine mix4_take_g (v := .slice A3 bs.length c3) rfl (by kernel_rfl) rfl (fun _ _ _ h => h) trivial (Facts.bel HD34b.out) (fun Y _ _ => by (try simp only [Act.put]); go_simp) ?_
    simp only [Act.put, List.setIfInBounds_toArray, List.set_cons_succ, List.set_cons_zero, List.getElem_toArray, List.getElem_cons_succ, List.getElem_cons_zero]
    refine mix4_take_g (v := .slice A4 bs.length c4) rfl (by kernel_rfl) rfl (fun _ _ _ h => h) trivial (Facts.bel HD34b.out) (fun Y _ _ => by (try simp only [Act.put]); go_simp) ?_
    simp only [Act.put, List.setIfInBounds_toArray, List.set_cons_succ, List.set_cons_zero, List.getElem_toArray, List.getElem_cons_succ, List.getElem_cons_zero]
    refine mix4_op_g rfl (by kernel_rfl) (fun K hK => ?_)
    have C35 := rsameB3_any bs bs A3 A4 c3 c4 D33 HSZ.out HSZ.out (HD34b.out.2.1) (HD34b.out.1)
    rw [decide_eq_true (rfl : bs = bs)] at C35
    skip
    have C35 := Lib.hid C35
    go_wp2_with fail
    refine C35.out.mono ?_; clear C35
    rintro e w36 ⟨rfl, hb37⟩
    have HF38 := Lib.hid (Facts.below hb37.below HD34b.out)
    refine hK _ _ ⟨⟨fun _ => trivial, Facts.bel HF38.out⟩, ?_⟩
    clear hK K
    clear HD34b
    clear hb37
    refine mix4_take_g (v := .bool true) rfl (by kernel_rfl) rfl (fun _ _ _ h => h) trivial (Facts.bel HF38.out) (fun Y _ _ => by (try simp only [Act.put]); go_simp) ?_
    simp only [Act.put, List.setIfInBounds_toArray, List.set_cons_succ, List.set_cons_zero, List.getElem_toArray, List.getElem_cons_succ, List.getElem_cons_zero]
    refine mix4_take_g (v := .bool true) rfl (by kernel_rfl) rfl (fun _ _ _ h => h) trivial (Facts.bel HF38.out) (fun Y _ _ => by (try simp only [Act.put]); go_simp) ?_
    simp only [Act.put, List.setIfInBounds_toArray, List.set_cons_succ, List.set_cons_zero, List.getElem_toArray, List.getElem_cons_succ, List.getElem_cons_zero]
    refine mix4_take_g (v := .agg #[.int .i64 u.kind, .string u.name, .int .i64 u.sort, .slice U u.kids.length cu]) rfl (by kernel_rfl) rfl (fun _ _ _ h => h) trivial (Facts.bel HF38.out) (fun Y _ hY => by
      obtain ⟨z0, z1, z2, z3, -⟩ := BoxT.cells ((show BoxT D33 _ _ _ _ from HD34.out.2.2.1).below hY)
      (try simp only [Act.put]); go_simp) ?_
    simp only [Act.put, List.setIfInBounds_toArray, List.set_cons_succ, List.set_cons_zero, List.getElem_toArray, List.getElem_cons_succ, List.getElem_cons_zero]
    refine mix4_take_g (v := .agg #[.int .i64 t.kind, .string t.name, .int .i64 t.sort, .slice T t.kids.length ct]) rfl (by kernel_rfl) rfl (fun _ _ _ h => h) trivial (Facts.bel HF38.out) (fun Y _ hY => by
      obtain ⟨z0, z1, z2, z3, -⟩ := BoxT.cells ((show BoxT D33 _ _ _ _ from HD34.out.2.2.2.1).below hY)
      (try simp only [Act.put]); go_simp) ?_
    simp only [Act.put, List.setIfInBounds_toArray, List.set_cons_succ, List.set_cons_zero, List.getElem_toArray, List.getElem_cons_succ, List.getElem_cons_zero]
    refine mix4_take_g (v := .int .i64 en) rfl (by kernel_rfl) rfl (fun _ _ _ h => h) trivial (Facts.bel HF38.out) (fun Y _ _ => by (try simp only [Act.put]); go_simp) ?_
    simp only [Act.put, List.setIfInBounds_toArray, List.set_cons_succ, List.set_cons_zero, List.getElem_toArray, List.getElem_cons_succ, List.getElem_cons_zero]
    refine mix4_take_g (v := .bool false) rfl (by kernel_rfl) rfl (fun _ _ _ h => h) trivial (Facts.bel HF38.out) (fun Y _ _ => by (try simp only [Act.put]); go_simp) ?_
    simp only [Act.put, List.setIfInBounds_toArray, List.set_cons_succ, List.set_cons_zero, List.getElem_toArray, List.getElem_cons_succ, List.getElem_cons_zero]
    refine mix4_op_g rfl (by kernel_rfl) (fun K hK => ?_)
    have C39 := U3.out w36 (HF38.out.2.2.2.1).2 (HF38.out.2.2.1).2
    rw [HZ.out] at C39
    simp only [Tm.val] at C39
    have C39 := Lib.hid C39
    go_wp2_with fail
    refine C39.out.mono ?_; clear C39
    rintro e w40 ⟨rfl, hb41⟩
    have HF42 := Lib.hid (Facts.below hb41 HF38.out)
    refine hK _ _ ⟨⟨fun _ => trivial, Facts.bel HF42.out⟩, ?_⟩
    clear hK K
    clear HF38
    clear hb41
    refine mix4_take_g (v := .bool true) rfl (by kernel_rfl) rfl (fun _ _ _ h => h) trivial (Facts.bel HF42.out) (fun Y _ _ => by (try simp only [Act.put]); go_simp) ?_
    simp only [Act.put, List.setIfInBounds_toArray, List.set_cons_succ, List.set_cons_zero, List.getElem_toArray, List.getElem_cons_succ, List.getElem_cons_zero]
    refine mix4_take_g (v := .bool true) rfl (by kernel_rfl) rfl (fun _ _ _ h => h) trivial (Facts.bel HF42.out) (fun Y _ _ => by (try simp only [Act.put]); go_simp) ?_
    simp only [Act.put, List.setIfInBounds_toArray, List.set_cons_succ, List.set_cons_zero, List.getElem_toArray, List.getElem_cons_succ, List.getElem_cons_zero]
    refine mix4_take_g (v := .bool true) rfl (by kernel_rfl) rfl (fun _ _ _ h => h) trivial (Facts.bel HF42.out) (fun Y _ _ => by (try simp only [Act.put]); go_simp) ?_
    simp only [Act.put, List.setIfInBounds_toArray, List.set_cons_succ, List.set_cons_zero, List.getElem_toArray, List.getElem_cons_succ, List.getElem_cons_zero]
    refine mix4_take_g (v := .int .i64 en) rfl (by kernel_rfl) rfl (fun _ _ _ h => h) trivial (Facts.bel HF42.out) (fun Y _ _ => by (try simp only [Act.put]); go_simp) ?_
    simp only [Act.put, List.setIfInBounds_toArray, List.set_cons_succ, List.set_cons_zero, List.getElem_toArray, List.getElem_cons_succ, List.getElem_cons_zero]
    refine mix4_take_g (v := .bool true) rfl (by kernel_rfl) rfl (fun _ _ _ h => h) trivial (Facts.bel HF42.out) (fun Y _ _ => by (try simp only [Act.put]); go_simp) ?_
    simp only [Act.put, List.setIfInBounds_toArray, List.set_cons_succ, List.set_cons_zero, List.getElem_toArray, List.getElem_cons_succ, List.getElem_cons_zero]
    refine mix4_take_g (v := .bool true) rfl (by kernel_rfl) rfl (fun _ _ _ h => h) trivial (Facts.bel HF42.out) (fun Y _ _ => by (try simp only [Act.put]); go_simp) ?_
    simp only [Act.put, List.setIfInBounds_toArray, List.set_cons_succ, List.set_cons_zero, List.getElem_toArray, List.getElem_cons_succ, List.getElem_cons_zero]
    refine mix4_off rfl (by kernel_rfl) rfl (fun _ _ _ h => h) trivial (Facts.bel HF42.out) ?_
    simp only [Act.put, List.setIfInBounds_toArray, List.set_cons_succ, List.set_cons_zero, List.getElem_toArray, List.getElem_cons_succ, List.getElem_cons_zero]
    refine mix4_off rfl (by kernel_rfl) rfl (fun _ _ _ h => h) trivial (Facts.bel HF42.out) ?_
    simp only [Act.put, List.setIfInBounds_toArray, List.set_cons_succ, List.set_cons_zero, List.getElem_toArray, List.getElem_cons_succ, List.getElem_cons_zero]
    refine mix4_off rfl (by kernel_rfl) rfl (fun _ _ _ h => h) trivial (Facts.bel HF42.out) ?_
    simp only [Act.put, List.setIfInBounds_toArray, List.set_cons_succ, List.set_cons_zero, List.getElem_toArray, List.getElem_cons_succ, List.getElem_cons_zero]
    refine mix4_off rfl (by kernel_rfl) rfl (fun _ _ _ h => h) trivial (Facts.bel HF42.out) ?_
    simp only [Act.put, List.setIfInBounds_toArray, List.set_cons_succ, List.set_cons_zero, List.getElem_toArray, List.getElem_cons_succ, List.getElem_cons_zero]
    refine mix4_off rfl (by kernel_rfl) rfl (fun _ _ _ h => h) trivial (Facts.bel HF42.out) ?_
    simp only [Act.put, List.setIfInBounds_toArray, List.set_cons_succ, List.set_cons_zero, List.getElem_toArray, List.getElem_cons_succ, List.getElem_cons_zero]
    refine mix4_take_g (v := .bool true) rfl (by kernel_rfl) rfl (fun _ _ _ h => h) trivial (Facts.bel HF42.out) (fun Y _ _ => by (try simp only [Act.put]); go_simp) ?_
    simp only [Act.put, List.setIfInBounds_toArray, List.set_cons_succ, List.set_cons_zero, List.getElem_toArray, List.getElem_cons_succ, List.getElem_cons_zero]
    refine mix4_take_g (v := .bool true) rfl (by kernel_rfl) rfl (fun _ _ _ h => h) trivial (Facts.bel HF42.out) (fun Y _ _ => by (try simp only [Act.put]); go_simp) ?_
    simp only [Act.put, List.setIfInBounds_toArray, List.set_cons_succ, List.set_cons_zero, List.getElem_toArray, List.getElem_cons_succ, List.getElem_cons_zero]
    refine mix4_take_g (v := .bool true) rfl (by kernel_rfl) rfl (fun _ _ _ h => h) trivial (Facts.bel HF42.out) (fun Y _ _ => by (try simp only [Act.put]); go_simp) ?_
    simp only [Act.put, List.setIfInBounds_toArray, List.set_cons_succ, List.set_cons_zero, List.getElem_toArray, List.getElem_cons_succ, List.getElem_cons_zero]
    refine mix4_nil ?_
    have HF43 := Lib.hid ((show Facts D33 [.binds bs A4 c4, .binds bs A3 c3, .box (b0 + 1) u U cu, .box b0 t T ct] w40 from ⟨HF42.out.1, HF42.out.2.1, HF42.out.2.2.1, HF42.out.2.2.2.1, Facts.bel HF42.out⟩).unbase (Facts.bel HD34.out))
    clear HF42 HD34
    go_wp2_with fail
    go_ret
    exact ⟨rfl, Facts.bel HF43.out⟩
end Go.Proofs.YtmajbopjaejliaaGreatDoor
