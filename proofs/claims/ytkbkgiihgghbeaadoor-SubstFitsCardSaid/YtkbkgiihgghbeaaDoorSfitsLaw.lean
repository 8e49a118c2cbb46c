/- The law SubstFits, walked. -/
import Derived.Test.YtkbkgiihgghbeaaDoorSawake
namespace Go.Proofs.YtkbkgiihgghbeaaDoor
open Go.RowKit Go.Sort

set_option maxHeartbeats 4000000 in
set_option maxRecDepth 100000 in
theorem fits_law (a b : Tm) (Aa Ab : Option Addr) (ca cb : Nat) (w : World) (hw : Words w.heap.size w) (ra : RepT w w.heap.size a Aa ca) (rb : RepT w w.heap.size b Ab cb) :
    Calls Tryd.prog 4 #[a.val Aa ca, b.val Ab cb] w fun e w' => e = .returned (.bool true) ∧ Below w.heap.size w w' := by
  have mixed : Tryd.prog.follows .mixedOrders = true := by kernel_rfl
  obtain ⟨V1, hV1⟩ : ∃ V, V = w.alloc (boxOf a Aa ca) := ⟨_, rfl⟩
  obtain ⟨V, hV⟩ : ∃ V, V = V1.alloc (boxOf b Ab cb) := ⟨_, rfl⟩
  have hs1 : V1.heap.size = w.heap.size + 1 := by rw [hV1]; simp
  have k1 : Below w.heap.size w V1 := by rw [hV1]; exact below1 (Nat.le_refl _) _
  have k2 : Below V1.heap.size V1 V := by rw [hV]; exact below1 (Nat.le_refl _) _
  have hbV := below_then k1 k2 k1.size
  have hxa : BoxT V w.heap.size a Aa ca := (show BoxT V1 w.heap.size a Aa ca by rw [hV1]; exact BoxT.new ra).below k2
  have hxb : BoxT V (w.heap.size + 1) b Ab cb := by rw [hV, ← hs1]; exact BoxT.new (rb.go k1 k1.size)
  rw [hV1] at hV
  have HW := Lib.hid (hw.below hbV); clear hw ra rb k1 k2 hs1 hV1
  have HBV := Lib.hid hbV; clear hbV
  have HXA := Lib.hid hxa; clear hxa
  have HXB := Lib.hid hxb; clear hxb
  simp only [boxOf] at hV
  have HV := Lib.hid hV; clear hV
  simp only [Tm.val]
  go_enter Tryd.func4, Tryd.ntmps4
  go_wp2_with fail
  rw [← HV.out]
  refine (sawake_any V HW.out).mono ?_
  rintro e w1 ⟨rfl, hb1⟩
  have hxa := HXA.out.below hb1
  have hxb := HXB.out.below hb1
  have hB1 := below_then HBV.out hb1 HBV.out.size
  have hw1 := HW.out.below hb1
  clear HV HBV HW HXA HXB hb1
  obtain ⟨a0, a1, a2, a3, -⟩ := hxa.cells
  obtain ⟨b0, b1, b2, b3, -⟩ := hxb.cells
  obtain ⟨Z, hZ⟩ : ∃ Z, Z = w1.alloc (.cells (itCells [(a, Aa, ca), (b, Ab, cb)]).toArray 30) := ⟨_, rfl⟩
  obtain ⟨hsl, hzb⟩ := slice_new _ hZ (by simp) (fun x hx => by
      simp only [List.mem_cons, List.not_mem_nil, or_false] at hx
      rcases hx with rfl | rfl
      · exact hxa.2
      · exact hxb.2)
  have hxa' := hxa.below hzb
  have hxb' := hxb.below hzb
  have hBZ := below_then hB1 hzb hB1.size
  have hwZ := hw1.below hzb
  simp only [itCells, Tm.cells, List.cons_append, List.nil_append] at hZ
  clear hxa hxb hB1 hw1 hzb
  have HZ := Lib.hid hZ; clear hZ
  have HSL := Lib.hid hsl; clear hsl
  have HB := Lib.hid hBZ; clear hBZ
  have HW := Lib.hid hwZ; clear hwZ
  have HXA := Lib.hid hxa'; clear hxa'
  have HXB := Lib.hid hxb'; clear hxb'
  go_wp2_with fail
  rw [← HZ.out]
  refine (few_any [a, b] _ 2 2 900 Z (by decide) (by decide) HSL.out).mono ?_
  rintro e w2 ⟨rfl, hl2⟩
  have hxa := HXA.out.below hl2.below
  have hxb := HXB.out.below hl2.below
  have hB2 := below_then HB.out hl2.below HB.out.size
  have hw2 := HW.out.below hl2.below
  clear HZ HSL HB HW HXA HXB hl2 a0 a1 a2 a3 b0 b1 b2 b3
  have HB := Lib.hid hB2; clear hB2
  have HXA := Lib.hid hxa; clear hxa
  have HXB := Lib.hid hxb; clear hxb
  have HW := Lib.hid hw2; clear hw2
  by_cases hle : (([a, b] : List Tm).length : Int) ≤ 2 ∧ 0 ≤ Tm.lefts [a, b] 900
  · have hsz := Tm.lefts_each (by decide) hle.2
    have sa : a.size ≤ 1000000 := by have := hsz a (by simp); omega
    have sb : b.size ≤ 1000000 := by have := hsz b (by simp); omega
    rw [decide_eq_true hle]
    clear hle hsz HW
    have SA := Lib.hid sa; clear sa
    have SB := Lib.hid sb; clear sb
    have cells : ∀ {t : Tm} {A : Option Addr} {k B : Nat}, Hid (BoxT w2 B t A k) → ∀ n os, (grow (w2.drewN n) os).cell? ⟨B, 0, none⟩ = some (.int .i64 t.kind) ∧ (grow (w2.drewN n) os).cell? ⟨B, 1, none⟩ = some (.string t.name) ∧
        (grow (w2.drewN n) os).cell? ⟨B, 2, none⟩ = some (.int .i64 t.sort) ∧ (grow (w2.drewN n) os).cell? ⟨B, 3, none⟩ = some (.slice A t.kids.length k) := fun H n os => by
      obtain ⟨h0, h1, h2, h3, -⟩ := (H.out.below (Lay.of_grow n os).below).cells
      exact ⟨h0, h1, h2, h3⟩
    have a0 := fun n os => (cells HXA n os).1
    have a1 := fun n os => (cells HXA n os).2.1
    have a2 := fun n os => (cells HXA n os).2.2.1
    have a3 := fun n os => (cells HXA n os).2.2.2
    have b0 := fun n os => (cells HXB n os).1
    have b1 := fun n os => (cells HXB n os).2.1
    have b2 := fun n os => (cells HXB n os).2.2.1
    have b3 := fun n os => (cells HXB n os).2.2.2
    have C1 : Hid (∀ Z, Below w2.heap.size w2 Z → Calls Tryd.prog 14 #[a.val Aa ca, b.val Ab cb] Z fun e w' => e = .returned (.bool (fits a b)) ∧ Lay Z.heap.size Z w') :=
      Lib.hid fun Z h => fits_any a b Aa Ab ca cb Z SA.out SB.out (HXA.out.below h).2 (HXB.out.below h).2
    have C2 : Hid (∀ Z, Below w2.heap.size w2 Z → Calls Tryd.prog 15 #[a.val Aa ca, b.val Ab cb] Z fun e w' => e = .returned (.bool (fits a b)) ∧ Lay Z.heap.size Z w') :=
      Lib.hid fun Z h => rfits_any a b Aa Ab ca cb Z SA.out SB.out (HXA.out.below h).2 (HXB.out.below h).2
    clear cells
    simp only [Tm.val] at C1 C2
    generalize fits a b = q at *
    have hq : (q == q) = true := beq_self_eq_true q
    go_wp2_with fail
    go_quiet_grown (first
      | (go_at_call 14; with_reducible exact quiet_lay (C1.out _ (Lay.of_grow _ _).below))
      | (go_at_call 15; with_reducible exact quiet_lay (C2.out _ (Lay.of_grow _ _).below)))
    go_wp2_with fail
    go_ret
    exact ⟨by simp, below_then HB.out (Lay.of_grow _ _).below HB.out.size⟩
  · rw [decide_eq_false hle]
    go_wp2_with fail
    refine (sawake_any w2 HW.out).mono ?_
    rintro e w3 ⟨rfl, hb3⟩
    go_wp2_with fail
    go_ret
    exact ⟨rfl, below_then HB.out hb3 HB.out.size⟩
end Go.Proofs.YtkbkgiihgghbeaaDoor
