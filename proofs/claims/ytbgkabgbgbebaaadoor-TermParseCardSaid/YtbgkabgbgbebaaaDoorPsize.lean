/- What the parser reads is no longer than the text. -/
import Derived.Test.YtbgkabgbgbebaaaDoorTapp
namespace Go.Proofs.YtbgkabgbgbebaaaDoor

theorem sizes_append : ∀ a b : List Tm, Tm.sizes (a ++ b) = Tm.sizes a + Tm.sizes b
  | [], b => by simp [Tm.sizes]
  | t :: a, b => by simp only [List.cons_append, Tm.sizes, sizes_append a b]; omega
theorem wlen_le (l : List UInt8) : wlen l ≤ l.length := (List.takeWhile_prefix _).length_le
theorem psize : ∀ n, (∀ l t r, pterm n l = some (t, r) → t.size + r.length ≤ l.length) ∧ (∀ w acc l t r, pkids n w acc l = some (t, r) → t.size + r.length ≤ 1 + Tm.sizes acc + l.length)
  | 0 => ⟨fun l t r h => by simp [pterm] at h, fun w acc l t r h => by simp [pkids] at h⟩
  | n + 1 => by
    obtain ⟨ih1, ih2⟩ := psize n
    have leaf : ∀ (k : Int) (x : ByteArray) (so : Int), (Tm.mk k x so []).size = 1 := fun k x so => by simp [Tm.size, Tm.sizes]
    constructor
    · intro l t r h
      rw [pterm] at h
      by_cases hv : Lib.hasPrefix l [63] = true
      · rw [if_pos hv] at h
        by_cases hn : nameL ((l.drop 1).takeWhile partB) = false
        · rw [if_pos hn] at h; cases h
        · rw [if_neg hn, if_pos hv] at h
          have hw := wlen_pos (l := l.drop 1) (by simpa using hn)
          have hle := wlen_le (l.drop 1)
          rw [List.length_drop] at hle
          unfold pvar at h
          split at h
          · split at h
            · injection h with h; injection h with h1 h2; subst h1 h2
              rw [leaf]; simp only [List.length_drop]; omega
            · cases h
          · injection h with h; injection h with h1 h2; subst h1 h2
            rw [leaf]; simp only [List.length_drop]; omega
      · rw [if_neg hv] at h
        by_cases hn : nameL (l.takeWhile partB) = false
        · rw [if_pos hn] at h; cases h
        · rw [if_neg hn, if_neg hv] at h
          have hw := wlen_pos (l := l) (by simpa using hn)
          have hle := wlen_le l
          by_cases hp : Lib.hasPrefix (l.drop (wlen l)) [40] = false
          · rw [if_pos hp] at h
            unfold patom at h
            split at h
            · injection h with h; injection h with h1 h2; subst h1 h2
              rw [leaf]; simp only [List.length_drop]; omega
            · cases h
          · rw [if_neg hp] at h
            have hp' : Lib.hasPrefix (l.drop (wlen l)) [40] = true := by simpa using hp
            have hne : 0 < (l.drop (wlen l)).length := by
              cases e : l.drop (wlen l) with
              | nil => rw [e] at hp'; simp [Lib.hasPrefix] at hp'
              | cons _ _ => simp
            have := ih2 _ _ _ _ _ h
            simp only [List.length_drop, Tm.sizes] at this hne
            omega
    · intro w acc l t r h
      rw [pkids] at h
      split at h
      · injection h with h; injection h with h1 h2; subst h1 h2
        rw [Tm.size]; simp only [List.length_drop]; omega
      · split at h
        · cases h
        · split at h
          · cases h
          · rename_i k r' hk
            have h1 := ih1 _ _ _ hk
            have h2 := ih2 _ _ _ _ _ h
            rw [sizes_append] at h2
            have hle : (if acc ≠ [] then l.drop 2 else l).length ≤ l.length := by split <;> simp
            simp only [Tm.sizes] at h2
            omega
end Go.Proofs.YtbgkabgbgbebaaaDoor
