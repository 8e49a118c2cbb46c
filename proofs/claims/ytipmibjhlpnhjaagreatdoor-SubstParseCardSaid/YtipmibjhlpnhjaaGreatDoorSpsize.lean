/- What is parsed of a piece is no larger than the piece. -/
import Derived.Test.YtipmibjhlpnhjaaGreatDoorSparseB
namespace Go.Proofs.YtipmibjhlpnhjaaGreatDoor
open Go.RowKit Go.Sort

theorem parseE_size (l : List UInt8) : (parseE l).1.size ≤ l.length + 1 := by
  unfold parseE
  split
  · rename_i t h
    have := (psize _).1 _ _ _ h
    split
    · simp only [List.length_nil] at this; show t.size ≤ _; omega
    · simp [Tm.size, Tm.sizes]
  · simp [Tm.size, Tm.sizes]
theorem bdP_size {p : List UInt8} (h : p.length ≤ 100000) : (bdP p).1.size ≤ 1000000 ∧ (bdP p).2.size ≤ 1000000 := by
  have h1 := parseE_size (Lib.cut p [32, 61, 32]).1
  have h2 := parseE_size (Lib.cut p [32, 61, 32]).2.1
  have h3 : (Lib.cut p [32, 61, 32]).1.length ≤ p.length ∧ (Lib.cut p [32, 61, 32]).2.1.length ≤ p.length := by
    unfold Lib.cut
    split
    · simp; omega
    · simp
  have h4 := h3.1; have h5 := h3.2
  exact ⟨show (parseE (Lib.cut p [32, 61, 32]).1).1.size ≤ _ by omega, show (parseE (Lib.cut p [32, 61, 32]).2.1).1.size ≤ _ by omega⟩
end Go.Proofs.YtipmibjhlpnhjaaGreatDoor
