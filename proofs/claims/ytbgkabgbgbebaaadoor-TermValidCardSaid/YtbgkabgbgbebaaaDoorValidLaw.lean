/- TermValid's walk: Valid returns the error of any term, Format its text or this error, and Parse leads back. -/
import Derived.Test.YtbgkabgbgbebaaaDoorAwake
import Derived.Test.YtbgkabgbgbebaaaDoorShut
import Derived.Test.YtbgkabgbgbebaaaDoorRtext
import Derived.Test.YtbgkabgbgbebaaaDoorTie
import Derived.Test.YtbgkabgbgbebaaaDoorCards
namespace Go.Proofs.YtbgkabgbgbebaaaDoor
open Go.RowKit Go.Sort

theorem BoxT.grown {V : World} {B : Nat} {t : Tm} {A : Option Addr} {c : Nat} (h : BoxT V B t A c) (n : Nat) (os : Array Obj) : BoxT (grow (V.drewN n) os) B t A c := h.below (Lay.of_grow n os).below

set_option maxHeartbeats 4000000 in
set_option maxRecDepth 100000 in
theorem valid_law (t : Tm) (A : Option Addr) (cap : Nat) (w : World) (hw : Words w.heap.size w) (hrep : RepT w w.heap.size t A cap) :
    Calls Tryd.prog 9 #[t.val A cap] w fun e w' => e = .returned (.bool true) ∧ Below w.heap.size w w' := by
  have mixed : Tryd.prog.follows .mixedOrders = true := by kernel_rfl
  obtain ⟨V, hV⟩ : ∃ V, V = w.alloc (boxOf t A cap) := ⟨_, rfl⟩
  have hbox : BoxT V w.heap.size t A cap := by rw [hV]; exact BoxT.new hrep
  have hbV : Below w.heap.size w V := by rw [hV]; exact below1 (Nat.le_refl _) _
  have HW := Lib.hid (hw.below hbV); clear hw hrep
  have HBV := Lib.hid hbV; clear hbV
  have HBOX := Lib.hid hbox; clear hbox
  simp only [boxOf] at hV
  have HV := Lib.hid hV; clear hV
  simp only [Tm.val]
  go_enter Tryd.func9, Tryd.ntmps9
  go_wp2_with fail
  rw [← HV.out]
  refine (awake_any V HW.out).mono ?_
  rintro e w1 ⟨rfl, hb1⟩
  have hbox := HBOX.out.below hb1
  have hB1 := below_then HBV.out hb1 HBV.out.size
  have hw1 := HW.out.below hb1
  clear HV HBV HW HBOX hb1
  obtain ⟨a0, a1, a2, a3, -⟩ := hbox.cells
  have HB := Lib.hid hB1; clear hB1
  have HW := Lib.hid hw1; clear hw1
  have HBOX := Lib.hid hbox; clear hbox
  go_wp2_with fail
  refine (one_any t A cap w1 HBOX.out.2).mono ?_
  rintro e w2 ⟨rfl, hl2⟩
  have hbox := HBOX.out.below hl2.below
  have hB2 := below_then HB.out hl2.below HB.out.size
  have hw2 := HW.out.below hl2.below
  clear HB HW HBOX a0 a1 a2 a3 hl2
  have HB := Lib.hid hB2; clear hB2
  have HW := Lib.hid hw2; clear hw2
  obtain ⟨a0, a1, a2, a3, -⟩ := hbox.cells
  have HBOX := Lib.hid hbox; clear hbox
  by_cases hle : 0 ≤ t.left 450
  · have hsz : t.size ≤ 1000000 := by have := Tm.left_size t 450 hle; omega
    have hsz2 : t.size ≤ 450 := by have := Tm.left_size t 450 hle; omega
    rw [decide_eq_true hle]
    clear hle
    have HSZ2 := Lib.hid hsz2; clear hsz2
    have HSZ := Lib.hid hsz; clear hsz
    have FM := Lib.hid (format_any t A cap w2 HSZ.out HBOX.out.2 HW.out)
    have RF : Hid (∀ Z, Below w2.heap.size w2 Z → Calls Tryd.prog 41 #[t.val A cap] Z fun e w' => e = .returned (.tuple #[.string ⟨t.formatE.1.toArray⟩, .int .i64 t.formatE.2]) ∧ Lay Z.heap.size Z w') := Lib.hid fun Z hZ =>
      rformat_any t A cap Z HSZ.out (HBOX.out.below hZ).2
    obtain ⟨st, hst⟩ : ∃ st : ByteArray, st = ⟨t.formatE.1.toArray⟩ := ⟨_, rfl⟩
    obtain ⟨ec, hec⟩ : ∃ ec, ec = t.formatE.2 := ⟨_, rfl⟩
    rw [← hst, ← hec] at FM RF
    have HST := Lib.hid hst; clear hst
    have HEC := Lib.hid hec; clear hec
    simp only [Tm.val] at FM RF
    go_wp2_with fail
    refine FM.out.mono ?_; clear FM a0 a1 a2 a3
    rintro e w3 ⟨rfl, hb3⟩
    have hbox := HBOX.out.below hb3
    obtain ⟨a0, a1, a2, a3, -⟩ := hbox.cells
    have hB3 := below_then HB.out hb3 HB.out.size
    have hw3 := HW.out.below hb3
    have RF := Lib.hid (RF.out w3 hb3)
    clear HB HW HBOX hb3
    have HB := Lib.hid hB3; clear hB3
    have HW := Lib.hid hw3; clear hw3
    have HBOX := Lib.hid hbox; clear hbox
    go_wp2_with fail
    refine RF.out.mono ?_; clear RF a0 a1 a2 a3
    rintro e w4 ⟨rfl, hl4⟩
    have hb4 := hl4.below
    have hbox := HBOX.out.below hb4
    have hB4 := below_then HB.out hb4 HB.out.size
    have hw4 := HW.out.below hb4
    clear HB HW HBOX hb4 hl4
    have HB := Lib.hid hB4; clear hB4
    have HW := Lib.hid hw4; clear hw4
    obtain ⟨a0', a1', a2', a3', -⟩ := hbox.cells
    have HBOX := Lib.hid hbox; clear hbox
    obtain ⟨vl, hvl⟩ : ∃ vl, vl = t.valid := ⟨_, rfl⟩
    have C1 : Hid (∀ Z, Below w4.heap.size w4 Z → Calls Tryd.prog 42 #[.agg #[.int .i64 t.kind, .string t.name, .int .i64 t.sort, .slice A t.kids.length cap]] Z fun e w' => e = .returned (.int .i64 vl) ∧ Lay Z.heap.size Z w') := Lib.hid fun Z h => by rw [hvl]; exact valid_any t A cap Z HSZ.out (HBOX.out.below h).2
    have C2 : Hid (∀ Z, Below w4.heap.size w4 Z → Calls Tryd.prog 43 #[.agg #[.int .i64 t.kind, .string t.name, .int .i64 t.sort, .slice A t.kids.length cap]] Z fun e w' => e = .returned (.int .i64 vl) ∧ Lay Z.heap.size Z w') := Lib.hid fun Z h => by rw [hvl]; exact rvalid_any t A cap Z HSZ.out (HBOX.out.below h).2
    have HVL := Lib.hid hvl; clear hvl
    have hcell : ∀ n os, (grow (w4.drewN n) os).cell? ⟨w.heap.size, 0, none⟩ = some (.int .i64 t.kind) ∧ (grow (w4.drewN n) os).cell? ⟨w.heap.size, 1, none⟩ = some (.string t.name) ∧ (grow (w4.drewN n) os).cell? ⟨w.heap.size, 2, none⟩ = some (.int .i64 t.sort) ∧ (grow (w4.drewN n) os).cell? ⟨w.heap.size, 3, none⟩ = some (.slice A t.kids.length cap) := fun n os => by
      obtain ⟨h0, h1, h2, h3, -⟩ := (HBOX.out.grown n os).cells
      exact ⟨h0, h1, h2, h3⟩
    have a0 := fun n os => (hcell n os).1
    have a1 := fun n os => (hcell n os).2.1
    have a2 := fun n os => (hcell n os).2.2.1
    have a3 := fun n os => (hcell n os).2.2.2
    clear hcell
    have hB5 : Hid (∀ n os, Below w.heap.size w (grow (w4.drewN n) os)) := Lib.hid fun n os => below_then HB.out (Lay.of_grow n os).below HB.out.size
    by_cases h0 : vl = 0
    · have HTX : Hid (st.data.toList = t.text) := by rw [HST.out]; unfold Tm.formatE; rw [if_pos (HVL.out.symm.trans h0)]; exact rfl
      have HV0 : Hid (t.valid = 0) := HVL.out.symm.trans h0
      have HF : Hid (ec = 0) := by rw [HEC.out]; unfold Tm.formatE; rw [if_pos (HVL.out.symm.trans h0)]; exact rfl
      have e0 : (ec == 0) = true := by rw [beq_iff_eq]; exact HF.out
      have e1 : (ec != 0) = false := by unfold bne; rw [e0]; rfl
      clear h0
      go_wp2_with fail
      go_quiet_grown (first
        | (go_at_call 42; with_reducible exact quiet_lay (C1.out _ (Lay.of_grow _ _).below))
        | (go_at_call 43; with_reducible exact quiet_lay (C2.out _ (Lay.of_grow _ _).below)))
      go_wp2_with fail
      have hbox := HBOX.out.grown nq osq
      have hw5 := HW.out.below (Lay.of_grow (w := w4) nq osq).below
      have hb5 := hB5.out nq osq
      clear a0 a1 a2 a3 a0' a1' a2' a3' C1 C2 HBOX HW HB hB5
      generalize grow (w4.drewN nq) osq = W5 at *
      have htl := text_len t (valid_check HV0.out).1
      have hss : st.size = t.text.length := by rw [size_list, HTX.out]
      have hPA := parse_any st W5 (by have := HSZ2.out; omega) hw5
      unfold Parsed at hPA
      rw [HTX.out, parseE_text HV0.out] at hPA
      have HPA := Lib.hid hPA; clear hPA hw5 htl hss
      have HBOX := Lib.hid hbox; clear hbox
      have HB := Lib.hid hb5; clear hb5
      refine HPA.out.mono ?_; clear HPA
      rintro e w6 ⟨A', cap', rfl, hrep6, hb6⟩
      have hbox := HBOX.out.below hb6
      have hB6 := below_then HB.out hb6 HB.out.size
      obtain ⟨X, hX⟩ : ∃ X, X = w6.alloc (boxOf t A' cap') := ⟨_, rfl⟩
      have hbX : Below w6.heap.size w6 X := by rw [hX]; exact below1 (Nat.le_refl _) _
      have hboxX := hbox.below hbX
      have hbu : BoxT X w6.heap.size t A' cap' := by rw [hX]; exact BoxT.new (repT_of hrep6)
      have SM := rsame_any t t A' A cap' cap X HSZ.out HSZ.out hbu.2 hboxX.2
      rw [Tm.same_iff.2 rfl] at SM
      have SM := Lib.hid SM
      have HB7 := Lib.hid (below_then hB6 hbX hB6.size)
      rw [hX] at hboxX hbu
      obtain ⟨a0, a1, a2, a3, -⟩ := hboxX.cells
      obtain ⟨u0, u1, u2, u3, -⟩ := hbu.cells
      have hne : w6.heap.size ≠ w.heap.size := by have := hbox.lt; omega
      have HX := Lib.hid hX
      simp only [boxOf] at a0 a1 a2 a3 u0 u1 u2 u3 HX
      clear hX hbox hboxX hbu hb6 hbX hB6 hrep6 HBOX HB
      simp only [Tm.val] at SM ⊢
      go_wp2_with fail
      rw [← HX.out]
      refine SM.out.mono ?_
      rintro e w7 ⟨rfl, hl7⟩
      have HB8 := Lib.hid (below_then HB7.out hl7.below HB7.out.size)
      clear SM HX a0 a1 a2 a3 u0 u1 u2 u3 hl7
      go_wp2_with fail
      go_ret
      exact ⟨rfl, HB8.out⟩
    · have HF : Hid (ec = vl) := by rw [HEC.out]; unfold Tm.formatE; rw [if_neg (by rw [← HVL.out]; exact h0)]; exact HVL.out.symm
      have e0 : (ec == 0) = false := by rw [beq_eq_false_iff_ne, HF.out]; exact h0
      have e1 : (ec != 0) = true := by unfold bne; rw [e0]; rfl
      clear h0 HW HVL HST HEC HF
      go_wp2_with fail
      go_quiet_grown (first
        | (go_at_call 42; with_reducible exact quiet_lay (C1.out _ (Lay.of_grow _ _).below))
        | (go_at_call 43; with_reducible exact quiet_lay (C2.out _ (Lay.of_grow _ _).below)))
      go_wp2_with fail
      have hbox := HBOX.out.grown nq osq
      have hb5 := hB5.out nq osq
      clear a0 a1 a2 a3 a0' a1' a2' a3' hB5 HB
      have C1 : Hid (∀ Z, Below (grow (w4.drewN nq) osq).heap.size (grow (w4.drewN nq) osq) Z → Calls Tryd.prog 42 #[.agg #[.int .i64 t.kind, .string t.name, .int .i64 t.sort, .slice A t.kids.length cap]] Z fun e w' => e = .returned (.int .i64 vl) ∧ Lay Z.heap.size Z w') := Lib.hid fun Z h =>
        C1.out Z (below_then (Lay.of_grow nq osq).below h (Lay.of_grow nq osq).below.size)
      have C2 : Hid (∀ Z, Below (grow (w4.drewN nq) osq).heap.size (grow (w4.drewN nq) osq) Z → Calls Tryd.prog 43 #[.agg #[.int .i64 t.kind, .string t.name, .int .i64 t.sort, .slice A t.kids.length cap]] Z fun e w' => e = .returned (.int .i64 vl) ∧ Lay Z.heap.size Z w') := Lib.hid fun Z h =>
        C2.out Z (below_then (Lay.of_grow nq osq).below h (Lay.of_grow nq osq).below.size)
      clear HBOX
      generalize grow (w4.drewN nq) osq = W5 at *
      have hcell : ∀ n os, (grow (W5.drewN n) os).cell? ⟨w.heap.size, 0, none⟩ = some (.int .i64 t.kind) ∧ (grow (W5.drewN n) os).cell? ⟨w.heap.size, 1, none⟩ = some (.string t.name) ∧ (grow (W5.drewN n) os).cell? ⟨w.heap.size, 2, none⟩ = some (.int .i64 t.sort) ∧ (grow (W5.drewN n) os).cell? ⟨w.heap.size, 3, none⟩ = some (.slice A t.kids.length cap) := fun n os => by
        obtain ⟨h0, h1, h2, h3, -⟩ := (hbox.grown n os).cells
        exact ⟨h0, h1, h2, h3⟩
      have a0 := fun n os => (hcell n os).1
      have a1 := fun n os => (hcell n os).2.1
      have a2 := fun n os => (hcell n os).2.2.1
      have a3 := fun n os => (hcell n os).2.2.2
      have HB5 := Lib.hid hb5
      clear hcell hbox hb5
      go_quiet_grown (first
        | (go_at_call 42; with_reducible exact quiet_lay (C1.out _ (Lay.of_grow _ _).below))
        | (go_at_call 43; with_reducible exact quiet_lay (C2.out _ (Lay.of_grow _ _).below)))
      go_wp2_with fail
      go_ret
      exact ⟨rfl, below_then HB5.out (Lay.of_grow _ _).below HB5.out.size⟩
  · rw [decide_eq_false hle]
    go_wp2_with fail
    refine (awake_any w2 HW.out).mono ?_
    rintro e w3 ⟨rfl, hb3⟩
    go_wp2_with fail
    go_ret
    exact ⟨rfl, below_then HB.out hb3 HB.out.size⟩
end Go.Proofs.YtbgkabgbgbebaaaDoor
