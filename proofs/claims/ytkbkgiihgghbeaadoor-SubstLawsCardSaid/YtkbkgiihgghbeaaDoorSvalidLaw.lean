/- The law SubstValid, walked. -/
import Derived.Test.YtkbkgiihgghbeaaDoorSawake
namespace Go.Proofs.YtkbkgiihgghbeaaDoor
open Go.RowKit Go.Sort

theorem flat_mem {l : List Bd} {b : Bd} (h : b ∈ l) : b.1 ∈ flat l ∧ b.2 ∈ flat l := by
  induction l with
  | nil => simp at h
  | cons x r ih =>
    rcases List.mem_cons.1 h with rfl | h
    · simp [flat]
    · exact ⟨List.mem_cons_of_mem _ (List.mem_cons_of_mem _ (ih h).1), List.mem_cons_of_mem _ (List.mem_cons_of_mem _ (ih h).2)⟩
/-- what a guard says -/
theorem fewB_true {l : List Bd} {n m : Int} (hm : 0 ≤ m) (hm1 : m ≤ 1000000) (h : fewB l n m = true) : SizeB l ∧ (l.length : Int) ≤ n := by
  unfold fewB at h
  simp only [Bool.and_eq_true, decide_eq_true_eq] at h
  refine ⟨fun b hb => ?_, by have := h.1; rw [flat_length] at this; push_cast at this; omega⟩
  have h2 := Tm.lefts_each hm h.2
  obtain ⟨h3, h4⟩ := flat_mem hb
  have := h2 _ h3; have := h2 _ h4; omega

set_option maxHeartbeats 4000000 in
set_option maxRecDepth 100000 in
theorem valid_law (l : List Bd) (A : Option Addr) (cap : Nat) (w : World) (hw : Words w.heap.size w) (hr : RepB w (fun b => b < w.heap.size) l A cap) (hroom : l.length * 112 ≤ 140737488355328) :
    Calls Tryd.prog 3 #[.slice A l.length cap] w fun e w' => e = .returned (.bool true) ∧ Below w.heap.size w w' := by
  have mixed : Tryd.prog.follows .mixedOrders = true := by kernel_rfl
  have HR0 := Lib.hid hr; clear hr
  have HROOM := Lib.hid hroom; clear hroom
  have HW := Lib.hid hw; clear hw
  go_enter Tryd.func3, Tryd.ntmps3
  go_wp2_with fail
  refine (sawake_any w HW.out).mono ?_
  rintro e w1 ⟨rfl, hb1⟩
  have HB := Lib.hid hb1
  have HW1 := Lib.hid (HW.out.below hb1); clear HW
  have HR := Lib.hid (HR0.out.go hb1 hb1.size); clear HR0 hb1
  go_wp2_with fail
  refine (rfewB_any l A cap 210 2000 w1 (by decide) (by decide) (by decide) (by decide) HROOM.out HR.out).mono ?_
  rintro e w2 ⟨rfl, hb2⟩
  have hB2 := below_then HB.out hb2 HB.out.size
  have HW2 := Lib.hid (HW1.out.below hb2); clear HW1 HB
  have HR2 := Lib.hid (HR.out.go hb2 hb2.size); clear HR hb2
  have HB := Lib.hid hB2; clear hB2
  cases hf : fewB l 210 2000 with
  | true =>
    have HSZ := Lib.hid (fewB_true (by decide) (by decide) hf).1
    clear hf
    go_wp2_with fail
    refine (svalid_any l A cap w2 HSZ.out HR2.out).mono ?_
    rintro e w3 ⟨rfl, hl3⟩
    have HR3 := Lib.hid (HR2.out.go hl3.below hl3.below.size); clear HR2
    have hB3 := below_then HB.out hl3.below HB.out.size
    clear HB hl3
    have HB := Lib.hid hB3; clear hB3
    have VS := Lib.hid (rsvalid_any l A cap w3 HSZ.out HR3.out)
    generalize validS l = q at *
    have hq : (q == q) = true := beq_self_eq_true q
    go_wp2_with fail
    refine VS.out.mono ?_
    rintro e w4 ⟨rfl, hl4⟩
    go_wp2_with fail
    go_ret
    exact ⟨by simp, below_then HB.out hl4.below HB.out.size⟩
  | false =>
    clear hf
    go_wp2_with fail
    refine (sawake_any w2 HW2.out).mono ?_
    rintro e w3 ⟨rfl, hb3⟩
    go_wp2_with fail
    go_ret
    exact ⟨rfl, below_then HB.out hb3 HB.out.size⟩
end Go.Proofs.YtkbkgiihgghbeaaDoor
