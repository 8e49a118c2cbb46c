/- What a guard on bindings says. -/
import Derived.Test.YtipmibjhlpnhjaaGreatDoorSawake
namespace Go.Proofs.YtipmibjhlpnhjaaGreatDoor
open Go.RowKit Go.Sort

theorem flat_mem {l : List Bd} {b : Bd} (h : b ∈ l) : b.1 ∈ flat l ∧ b.2 ∈ flat l := by
  induction l with
  | nil => simp at h
  | cons x r ih =>
    rcases List.mem_cons.1 h with rfl | h
    · simp [flat]
    · exact ⟨List.mem_cons_of_mem _ (List.mem_cons_of_mem _ (ih h).1), List.mem_cons_of_mem _ (List.mem_cons_of_mem _ (ih h).2)⟩
/-- what a guard says -/
theorem fewB_true {l : List Bd} {n m : Int} (hm : 0 ≤ m) (hm1 : m ≤ 1000000) (h : fewB l n m = true) : SizeB l ∧ (l.length : Int) ≤ n := by
  unfold fewB at h
  simp only [Bool.and_eq_true, decide_eq_true_eq] at h
  refine ⟨fun b hb => ?_, by have := h.1; rw [flat_length] at this; push_cast at this; omega⟩
  have h2 := Tm.lefts_each hm h.2
  obtain ⟨h3, h4⟩ := flat_mem hb
  have := h2 _ h3; have := h2 _ h4; omega
end Go.Proofs.YtipmibjhlpnhjaaGreatDoor
