/- What the row's list gives: the package variable words holds its six words. -/
import Derived.Test.YtbgkabgbgbebaaaDoorOpen
import Derived.Test.YtbgkabgbgbebaaaDoorSorts
import Derived.Test.YtbgkabgbgbebaaaDoorRows
import Derived.Lib.LaidTab
namespace Go.Proofs.YtbgkabgbgbebaaaDoor
open Go.ChangeShapes Go.WideShapes Go.Deep Go.Joins Go.RowKit

theorem gWords : Tryd.prog.globalNamed "sealring/term.words" = some 0 := by kernel_rfl
theorem gWordsType : (Tryd.prog.globals[0]?).map (·.type) = some 86 := by kernel_rfl
/-- The list of the row. -/
def laidWords : List (String × DataW Unit) := [("sealring/term.words", Rows.laid_sealring_term_words)]
theorem laid_words {W : World} (h : laidMetH Tryd.prog laidWords W) : Words W.heap.size W := by
  have h' : laidMet Tryd.prog laidWords W := h
  obtain ⟨ps, ⟨g', t', cs, fuel, p, q, hg', ht', hvar, hd, -, -⟩, -⟩ := h'
  obtain rfl := Option.some.inj (gWords.symm.trans hg')
  obtain rfl := Option.some.inj (gWordsType.symm.trans ht')
  rcases open_slice1 Tryd.underlying86 cellsStr hd with ⟨-, hx⟩ | ⟨a, len, cap, m, n, V, D, Pl, hcs, -, hl, hm, hmm, hx, hi⟩
  · exact absurd (congrArg Prod.fst hx) (by simp [Rows.laid_sealring_term_words])
  have hx1 := congrArg Prod.fst hx
  simp only [Rows.laid_sealring_term_words, DataW.slice.injEq] at hx1
  have hlen : len = 6 := by simpa using (congrArg List.length hx1.1).symm
  subst hlen
  have hD : ∀ i, i < 6 → D i = .lit (.string (wordList.getD i ByteArray.empty).data.toList) := fun i hi => by
    have h := congrArg (·[i]?) hx1.1
    have e : ((List.range 6).map D)[i]? = some (D i) := by simp [hi]
    rw [e] at h
    have h2 := h.symm
    match i, hi with
    | 0, _ => exact Option.some.inj h2
    | 1, _ => exact Option.some.inj h2
    | 2, _ => exact Option.some.inj h2
    | 3, _ => exact Option.some.inj h2
    | 4, _ => exact Option.some.inj h2
    | 5, _ => exact Option.some.inj h2
  have hV : ∀ i, i < 6 → W.cell? (a.add i) = some (.string (wordList.getD i ByteArray.empty)) := fun i hi6 => by
    obtain ⟨hc, ht⟩ := hi i (by rw [hmm]; split <;> omega)
    obtain ⟨s, hs, hy, -⟩ := DataW.trod_string Tryd.underlying9 ht
    rw [hD i hi6] at hy
    simp only [List.cons.injEq, and_true] at hs
    simp only [Prod.mk.injEq, DataW.lit.injEq, Lit.string.injEq] at hy
    rw [hc, hs]
    congr 2
    apply ByteArray.ext
    exact (Array.toList_inj.1 hy.1).symm
  have h0 := hV 0 (by omega)
  have hs := World.cell?_spot h0
  have hb := World.block_lt h0
  obtain ⟨b, off, sp⟩ := a
  simp only [Addr.add, if_true] at hs hb
  subst hs
  have hc0 : W.cell? ⟨0, 0, none⟩ = some (.slice (some ⟨b, off, none⟩) 6 cap) := by
    have := World.var?_cell gWords hvar 0
    rw [this]
    have h1 : cs[0]? = cs.toList[0]? := by simp
    rw [h1, hcs]; rfl
  refine ⟨b, off, cap, World.block_lt hc0, hb, hc0, fun j hj => ?_⟩
  have := hV j hj
  rw [show (⟨b, off, none⟩ : Addr).add j = ⟨b, off + j, none⟩ by unfold Addr.add; split <;> simp_all] at this
  exact this
end Go.Proofs.YtbgkabgbgbebaaaDoor
