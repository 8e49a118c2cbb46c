/- The law SubstRename, walked. -/
import Derived.Test.YtkbkgiihgghbeaaGreatDoorSzren
namespace Go.Proofs.YtkbkgiihgghbeaaGreatDoor
open Go.RowKit Go.Sort

theorem renameE_le (sf : ByteArray) (t : Tm) : (renameE sf t).1.size ≤ t.size := by
  have hp := t.size_pos
  unfold renameE
  split
  · simp [Tm.size, Tm.sizes]; omega
  split
  · simp [Tm.size, Tm.sizes]; omega
  split
  · simp [Tm.size, Tm.sizes]; omega
  · exact Nat.le_of_eq (renE_size sf t)
theorem renameE_eq (sf : ByteArray) (t : Tm) (h : (renameE sf t).2 = 0) : (renameE sf t).1.size = t.size := by
  unfold renameE at h ⊢
  split at h
  · rename_i g; exact absurd h g
  · rename_i g
    rw [if_neg g]
    split at h
    · omega
    · rename_i g2
      rw [if_neg g2]
      split at h
      · omega
      · rename_i g3
        rw [if_neg g3]
        exact renE_size sf t

set_option maxHeartbeats 4000000 in
set_option maxRecDepth 100000 in
theorem rename_law (t : Tm) (sf : ByteArray) (A : Option Addr) (c : Nat) (w : World) (hw : Words w.heap.size w) (ra : RepT w w.heap.size t A c) :
    Calls Tryz.prog 3 #[t.val A c, .string sf] w fun e w' => e = .returned (.bool true) ∧ Below w.heap.size w w' := by
  have mixed : Tryz.prog.follows .mixedOrders = true := by kernel_rfl
  obtain ⟨V, hV⟩ : ∃ V, V = w.alloc (boxOf t A c) := ⟨_, rfl⟩
  have hbV : Below w.heap.size w V := by rw [hV]; exact below1 (Nat.le_refl _) _
  have hxa : BoxT V w.heap.size t A c := by rw [hV]; exact BoxT.new ra
  have HW := Lib.hid (hw.below hbV); clear hw ra
  have HBV := Lib.hid hbV; clear hbV
  have HXA := Lib.hid hxa; clear hxa
  simp only [boxOf] at hV
  have HV := Lib.hid hV; clear hV
  simp only [Tm.val]
  go_enter Tryz.func3, Tryz.ntmps3
  go_wp2_with fail
  rw [← HV.out]
  refine (sawake_any V HW.out).mono ?_
  rintro e w1 ⟨rfl, hb1⟩
  have hxa := HXA.out.below hb1
  have hB1 := below_then HBV.out hb1 HBV.out.size
  have hw1 := HW.out.below hb1
  clear HV HBV HW HXA hb1
  obtain ⟨a0, a1, a2, a3, -⟩ := hxa.cells
  obtain ⟨Z, hZ⟩ : ∃ Z, Z = w1.alloc (.cells (itCells [(t, A, c)]).toArray 24) := ⟨_, rfl⟩
  obtain ⟨hsl, hzb⟩ := slice_new _ hZ (by simp) (fun x hx => by
      simp only [List.mem_cons, List.not_mem_nil, or_false] at hx
      subst hx
      exact hxa.2)
  have hxa' := hxa.below hzb
  have hBZ := below_then hB1 hzb hB1.size
  have hwZ := hw1.below hzb
  simp only [itCells, Tm.cells, List.cons_append, List.nil_append] at hZ
  clear hxa hB1 hw1 hzb
  have HZ := Lib.hid hZ; clear hZ
  have HSL := Lib.hid hsl; clear hsl
  have HB := Lib.hid hBZ; clear hBZ
  have HW := Lib.hid hwZ; clear hwZ
  have HXA := Lib.hid hxa'; clear hxa'
  go_wp2_with fail
  rw [← HZ.out]
  refine (few_any [t] _ 1 1 450 Z (by decide) (by decide) HSL.out).mono ?_
  rintro e w2 ⟨rfl, hl2⟩
  have hxa := HXA.out.below hl2.below
  have hB2 := below_then HB.out hl2.below HB.out.size
  have hw2 := HW.out.below hl2.below
  clear HZ HSL HB HW HXA hl2 a0 a1 a2 a3
  have HB := Lib.hid hB2; clear hB2
  have HXA := Lib.hid hxa; clear hxa
  have HW := Lib.hid hw2; clear hw2
  by_cases hle : (([t] : List Tm).length : Int) ≤ 1 ∧ 0 ≤ Tm.lefts [t] 450
  · have hsz := Tm.lefts_each (by decide) hle.2
    have sa : t.size ≤ 1000000 := by have := hsz t (by simp); omega
    rw [decide_eq_true hle]
    clear hle hsz
    by_cases hlen : (40 : Int) < (sf.size : Int)
    · go_wp2_with fail
      refine (sawake_any w2 HW.out).mono ?_
      rintro e w3 ⟨rfl, hb3⟩
      go_wp2_with fail
      go_ret
      exact ⟨rfl, below_then HB.out hb3 HB.out.size⟩
    · have hsf : sf.size ≤ 1000 := by omega
      have hel := renameE_le sf t
      have heq := renameE_eq sf t
      have C1 : Calls Tryz.prog 8 #[t.val A c, .string sf] w2 (Applied (renameE sf t) w2) := sRename_any sf hsf t A c w2 sa HXA.out.2
      have C2 : Hid (∀ Z, Below w2.heap.size w2 Z → Calls Tryz.prog 9 #[t.val A c, .string sf] Z (Applied (renameE sf t) Z)) := Lib.hid fun Z h => rRename_any sf hsf t A c Z sa (HXA.out.below h).2
      have C3 : Hid (∀ Z, Below w2.heap.size w2 Z → Calls Tryz.prog 11 #[t.val A c] Z fun e w' => e = .returned (.int .i64 t.size) ∧ Lay Z.heap.size Z w') := Lib.hid fun Z h => rsize_any 1000000 t A c Z sa (Nat.le_refl _) (HXA.out.below h).2
      clear HW
      generalize renameE sf t = q at *
      obtain ⟨u, n⟩ := q
      dsimp only at hel heq
      have HEQ := Lib.hid heq; clear heq
      have m1 : (n == n) = true := beq_self_eq_true n
      have C1 := Lib.hid C1
      have hus : u.size ≤ 1000000 := by omega
      obtain ⟨a0, a1, a2, a3, -⟩ := HXA.out.cells
      simp only [Tm.val] at C1 C2 C3
      go_wp2_with fail
      refine C1.out.mono ?_; clear C1 a0 a1 a2 a3
      rintro e w3 ⟨A3, c3, rfl, hr3, hb3⟩
      obtain ⟨X, hX⟩ : ∃ X, X = w3.alloc (boxOf u A3 c3) := ⟨_, rfl⟩
      have hb3X : Below w3.heap.size w3 X := by rw [hX]; exact below1 (Nat.le_refl _) _
      have hU : BoxT X w3.heap.size u A3 c3 := by rw [hX]; exact BoxT.new (RepP.mono (fun b h => h.2) (fun _ _ => rfl) _ _ _ hr3)
      have hVX := below_then hb3 hb3X hb3.size
      have hK := HXA.out.below hVX
      have C2 := Lib.hid (C2.out X hVX)
      have HX3 := Lib.hid hVX; clear hVX hb3 hb3X hr3
      obtain ⟨x0, x1, x2, x3, -⟩ := hK.cells
      have HU := Lib.hid hU; clear hU
      simp only [boxOf] at hX
      rw [hX] at x0 x1 x2 x3
      have HX := Lib.hid hX; clear hX hK
      simp only [Tm.val]
      go_wp2_with fail
      rw [← HX.out]
      refine C2.out.mono ?_; clear C2 x0 x1 x2 x3 HX
      rintro e w4 ⟨A4, c4, rfl, hr4, hb4⟩
      obtain ⟨Y, hY⟩ : ∃ Y, Y = w4.alloc (boxOf u A4 c4) := ⟨_, rfl⟩
      have hb4Y : Below w4.heap.size w4 Y := by rw [hY]; exact below1 (Nat.le_refl _) _
      have hU2 : BoxT Y w4.heap.size u A4 c4 := by rw [hY]; exact BoxT.new (RepP.mono (fun b h => h.2) (fun _ _ => rfl) _ _ _ hr4)
      have hVY := below_then hb4 hb4Y hb4.size
      have hK := HU.out.below hVY
      have HY2 := Lib.hid (below_then HX3.out hVY HX3.out.size)
      have hT := HXA.out.below HY2.out
      have SM : Hid (∀ Z, Below Y.heap.size Y Z → Calls Tryz.prog 10 #[u.val A3 c3, u.val A4 c4] Z fun e w' => e = .returned (.bool true) ∧ Lay Z.heap.size Z w') := Lib.hid fun Z h => by
        have := rsame_any u u A3 A4 c3 c4 Z hus hus (hK.below h).2 (hU2.below h).2
        rw [Tm.same_iff.2 rfl] at this; exact this
      have SZ : Hid (∀ Z, Below Y.heap.size Y Z → Calls Tryz.prog 11 #[u.val A3 c3] Z fun e w' => e = .returned (.int .i64 u.size) ∧ Lay Z.heap.size Z w') := Lib.hid fun Z h => rsize_any 1000000 u A3 c3 Z hus (Nat.le_refl _) (hK.below h).2
      have ST : Hid (∀ Z, Below Y.heap.size Y Z → Calls Tryz.prog 11 #[t.val A c] Z fun e w' => e = .returned (.int .i64 t.size) ∧ Lay Z.heap.size Z w') := Lib.hid fun Z h => C3.out Z (below_then HY2.out h HY2.out.size)
      have KU := Lib.hid hK
      have KT := Lib.hid hT
      have KW := Lib.hid hU2
      obtain ⟨x0, x1, x2, x3, -⟩ := hK.cells
      obtain ⟨y0, y1, y2, y3, -⟩ := hU2.cells
      clear hVY hb4 hb4Y hr4 HU hK hT hU2 C3
      simp only [boxOf] at hY
      rw [hY] at x0 x1 x2 x3 y0 y1 y2 y3
      have HY := Lib.hid hY; clear hY
      simp only [Tm.val] at SM SZ ST ⊢
      go_wp2_with fail
      rw [← HY.out]
      clear x0 x1 x2 x3 y0 y1 y2 y3 HY
      have cells : ∀ {t : Tm} {A : Option Addr} {k B : Nat}, Hid (BoxT Y B t A k) → ∀ n os, (grow (Y.drewN n) os).cell? ⟨B, 0, none⟩ = some (.int .i64 t.kind) ∧ (grow (Y.drewN n) os).cell? ⟨B, 1, none⟩ = some (.string t.name) ∧
          (grow (Y.drewN n) os).cell? ⟨B, 2, none⟩ = some (.int .i64 t.sort) ∧ (grow (Y.drewN n) os).cell? ⟨B, 3, none⟩ = some (.slice A t.kids.length k) := fun H n os => by
        obtain ⟨h0, h1, h2, h3, -⟩ := (H.out.below (Lay.of_grow n os).below).cells
        exact ⟨h0, h1, h2, h3⟩
      have a0 := fun n os => (cells KU n os).1
      have a1 := fun n os => (cells KU n os).2.1
      have a2 := fun n os => (cells KU n os).2.2.1
      have a3 := fun n os => (cells KU n os).2.2.2
      have b0 := fun n os => (cells KW n os).1
      have b1 := fun n os => (cells KW n os).2.1
      have b2 := fun n os => (cells KW n os).2.2.1
      have b3 := fun n os => (cells KW n os).2.2.2
      have d0 := fun n os => (cells KT n os).1
      have d1 := fun n os => (cells KT n os).2.1
      have d2 := fun n os => (cells KT n os).2.2.1
      have d3 := fun n os => (cells KT n os).2.2.2
      clear cells
      rcases eq_facts n 0 with ⟨h0, e0, n0⟩ | ⟨h0, e0, n0⟩
      · have hse := HEQ.out h0
        subst h0
        rw [← hse] at ST
        go_quiet_grown (first
          | (go_at_call 10; with_reducible exact quiet_lay (SM.out _ (Lay.of_grow _ _).below))
          | (go_at_call 11; with_reducible exact quiet_lay (SZ.out _ (Lay.of_grow _ _).below))
          | (go_at_call 11; with_reducible exact quiet_lay (ST.out _ (Lay.of_grow _ _).below)))
        go_wp2_with fail
        go_ret
        exact ⟨by simp, below_then HB.out (below_then HY2.out (Lay.of_grow _ _).below HY2.out.size) HB.out.size⟩
      · go_quiet_grown (first
          | (go_at_call 10; with_reducible exact quiet_lay (SM.out _ (Lay.of_grow _ _).below)))
        go_wp2_with fail
        go_ret
        exact ⟨by simp, below_then HB.out (below_then HY2.out (Lay.of_grow _ _).below HY2.out.size) HB.out.size⟩
  · rw [decide_eq_false hle]
    go_wp2_with fail
    refine (sawake_any w2 HW.out).mono ?_
    rintro e w3 ⟨rfl, hb3⟩
    go_wp2_with fail
    go_ret
    exact ⟨rfl, below_then HB.out hb3 HB.out.size⟩
end Go.Proofs.YtkbkgiihgghbeaaGreatDoor
