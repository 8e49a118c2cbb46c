/- TermSizes: the card. Size and Depth return the sizes of any term. -/
import Derived.Test.YtbgkabgbgbebaaaDoorAwake
import Derived.Test.YtbgkabgbgbebaaaDoorShut
import Derived.Test.YtbgkabgbgbebaaaDoorDepth
import Derived.Shelf.SlSortCmp.QuietGrown
import Derived.Test.YtbgkabgbgbebaaaDoorTie
import Derived.Test.YtbgkabgbgbebaaaDoorCards
namespace Go.Proofs.YtbgkabgbgbebaaaDoor
open Go.RowKit Go.Sort

set_option maxHeartbeats 1600000 in
set_option maxRecDepth 100000 in
theorem sizes_law (t : Tm) (A : Option Addr) (cap : Nat) (w : World) (hw : Words w.heap.size w) (hrep : RepT w w.heap.size t A cap) :
    Calls Tryd.prog 3 #[t.val A cap] w fun e w' => e = .returned (.bool true) ∧ Below w.heap.size w w' := by
  have mixed : Tryd.prog.follows .mixedOrders = true := by kernel_rfl
  obtain ⟨V, hV⟩ : ∃ V, V = w.alloc (boxOf t A cap) := ⟨_, rfl⟩
  have hbox : BoxT V w.heap.size t A cap := by rw [hV]; exact BoxT.new hrep
  have hbV : Below w.heap.size w V := by rw [hV]; exact below1 (Nat.le_refl _) _
  have HW := Lib.hid (hw.below hbV); clear hw hrep
  have HBV := Lib.hid hbV; clear hbV
  have HBOX := Lib.hid hbox; clear hbox
  simp only [boxOf] at hV
  have HV := Lib.hid hV; clear hV
  simp only [Tm.val]
  go_enter Tryd.func3, Tryd.ntmps3
  go_wp2_with fail
  rw [← HV.out]
  refine (awake_any V HW.out).mono ?_
  rintro e w1 ⟨rfl, hb1⟩
  have hbox := HBOX.out.below hb1
  have hB1 := below_then HBV.out hb1 HBV.out.size
  have hw1 := HW.out.below hb1
  clear HV HBV HW HBOX hb1
  obtain ⟨a0, a1, a2, a3, -⟩ := hbox.cells
  have HB := Lib.hid hB1; clear hB1
  have HW := Lib.hid hw1; clear hw1
  have HBOX := Lib.hid hbox; clear hbox
  go_wp2_with fail
  refine (one_any t A cap w1 HBOX.out.2).mono ?_
  rintro e w2 ⟨rfl, hl2⟩
  have hbox := HBOX.out.below hl2.below
  have hB2 := below_then HB.out hl2.below HB.out.size
  have hw2 := HW.out.below hl2.below
  clear HB HW HBOX a0 a1 a2 a3 hl2
  have HB := Lib.hid hB2; clear hB2
  have HW := Lib.hid hw2; clear hw2
  have HBOX := Lib.hid hbox; clear hbox
  by_cases hle : 0 ≤ t.left 450
  · have hsz : t.size ≤ 1000000 := by have := Tm.left_size t 450 hle; omega
    rw [decide_eq_true hle]
    clear hle HW
    have HSZ := Lib.hid hsz; clear hsz
    have hcell : ∀ n os, (grow (w2.drewN n) os).cell? ⟨w.heap.size, 0, none⟩ = some (.int .i64 t.kind) ∧ (grow (w2.drewN n) os).cell? ⟨w.heap.size, 1, none⟩ = some (.string t.name) ∧ (grow (w2.drewN n) os).cell? ⟨w.heap.size, 2, none⟩ = some (.int .i64 t.sort) ∧ (grow (w2.drewN n) os).cell? ⟨w.heap.size, 3, none⟩ = some (.slice A t.kids.length cap) := fun n os => by
      obtain ⟨h0, h1, h2, h3, -⟩ := (HBOX.out.below (Lay.of_grow n os).below).cells
      exact ⟨h0, h1, h2, h3⟩
    have a0 := fun n os => (hcell n os).1
    have a1 := fun n os => (hcell n os).2.1
    have a2 := fun n os => (hcell n os).2.2.1
    have a3 := fun n os => (hcell n os).2.2.2
    have C1 : Hid (∀ Z, Below w2.heap.size w2 Z → Calls Tryd.prog 13 #[.agg #[.int .i64 t.kind, .string t.name, .int .i64 t.sort, .slice A t.kids.length cap]] Z fun e w' => e = .returned (.int .i64 t.size) ∧ Lay Z.heap.size Z w') := Lib.hid fun Z h => size_any 1000000 t A cap Z HSZ.out (by decide) (HBOX.out.below h).2
    have C2 : Hid (∀ Z, Below w2.heap.size w2 Z → Calls Tryd.prog 14 #[.agg #[.int .i64 t.kind, .string t.name, .int .i64 t.sort, .slice A t.kids.length cap]] Z fun e w' => e = .returned (.int .i64 t.size) ∧ Lay Z.heap.size Z w') := Lib.hid fun Z h => rsize_any 1000000 t A cap Z HSZ.out (by decide) (HBOX.out.below h).2
    have C3 : Hid (∀ Z, Below w2.heap.size w2 Z → Calls Tryd.prog 15 #[.agg #[.int .i64 t.kind, .string t.name, .int .i64 t.sort, .slice A t.kids.length cap]] Z fun e w' => e = .returned (.int .i64 t.depth) ∧ Lay Z.heap.size Z w') := Lib.hid fun Z h => depth_any 1000000 t A cap Z HSZ.out (by decide) (HBOX.out.below h).2
    have C4 : Hid (∀ Z, Below w2.heap.size w2 Z → Calls Tryd.prog 16 #[.agg #[.int .i64 t.kind, .string t.name, .int .i64 t.sort, .slice A t.kids.length cap]] Z fun e w' => e = .returned (.int .i64 t.depth) ∧ Lay Z.heap.size Z w') := Lib.hid fun Z h => rdepth_any 1000000 t A cap Z HSZ.out (by decide) (HBOX.out.below h).2
    clear hcell HBOX HSZ
    go_wp2_with fail
    go_quiet_grown (first
      | (go_at_call 13; exact quiet_lay (C1.out _ (Lay.of_grow _ _).below))
      | (go_at_call 14; exact quiet_lay (C2.out _ (Lay.of_grow _ _).below))
      | (go_at_call 15; exact quiet_lay (C3.out _ (Lay.of_grow _ _).below))
      | (go_at_call 16; exact quiet_lay (C4.out _ (Lay.of_grow _ _).below)))
    go_wp2_with fail
    go_ret
    exact ⟨rfl, below_then HB.out (Lay.of_grow _ _).below HB.out.size⟩
  · rw [decide_eq_false hle]
    go_wp2_with fail
    refine (awake_any w2 HW.out).mono ?_
    rintro e w3 ⟨rfl, hb3⟩
    go_wp2_with fail
    go_ret
    exact ⟨rfl, below_then HB.out hb3 HB.out.size⟩
end Go.Proofs.YtbgkabgbgbebaaaDoor
