/- A handed slice of ints as a list of them. -/
import Derived.Test.YtbgkabgbgbebaaaDoorOpen
import Derived.Test.YtbgkabgbgbebaaaDoorAt
namespace Go.Proofs.YtbgkabgbgbebaaaDoor
open Go.ChangeShapes Go.WideShapes Go.Deep Go.Joins Go.RowKit

section
variable {H : Type} {enc : TypeId × Value → H} {w : World} {base : Nat} {spare : Nat → Bool} {held : Bool}
set_option maxRecDepth 100000 in
theorem open_ints' {v : Value} {d : DataW H} {p : List MemPlace} {r : Reach} {b0 : Nat} (hv : Value.okWide Tryd.prog w r b0 37 v) (h : DataW.Trod enc Tryd.prog w base spare held 37 v d p) :
    ∃ (l : List Int) (A : Option Addr) (cap : Nat), v = .slice A l.length cap ∧ RepI w (fun b => b < w.heap.size) l A cap := by
  obtain ⟨A, len, cap, rfl⟩ := okWide_slice Tryd.underlying37 hv
  obtain ⟨n, hn⟩ := h
  rcases open_slice1 Tryd.underlying37 cellsI hn with ⟨hcs, -⟩ | ⟨a, len', cap', m, j, V, D, Pl, hcs, -, hl, hm, hmm, -, hi⟩
  · simp [Value.cells] at hcs
    obtain ⟨rfl, rfl, rfl⟩ := hcs
    exact ⟨[], none, 0, rfl, Nat.zero_le _, Nat.zero_le _, .inl rfl⟩
  · simp [Value.cells] at hcs
    obtain ⟨rfl, rfl, rfl⟩ := hcs
    have step : ∀ i, i < len → ∃ z : Int, w.cell? (a.add i) = some (.int .i64 z) := fun i hlt => by
      obtain ⟨hc, ht⟩ := hi i (by rw [hmm]; split <;> omega)
      obtain ⟨z, hz, -, -⟩ := DataW.trod_int Tryd.underlying3 ht
      simp only [List.cons.injEq, and_true] at hz
      exact ⟨z, by rw [hc, hz]⟩
    obtain ⟨f, hf⟩ := choose_lt step
    refine ⟨(List.range len).map f, some a, cap, by simp, by simpa using hl, hm, ?_⟩
    by_cases h0 : len = 0
    · left; subst h0; rfl
    right
    have h00 := hf 0 (by omega)
    have hs := World.cell?_spot h00
    have hb := World.block_lt h00
    obtain ⟨b, off, sp⟩ := a
    simp only [Addr.add, if_true] at hs hb
    subst hs
    refine ⟨b, off, rfl, hb, fun i hlt => ?_⟩
    have := hf i (by simpa using hlt)
    rw [show (⟨b, off, none⟩ : Addr).add i = ⟨b, off + i, none⟩ by unfold Addr.add; split <;> simp_all] at this
    simpa using this
end
end Go.Proofs.YtbgkabgbgbebaaaDoor
