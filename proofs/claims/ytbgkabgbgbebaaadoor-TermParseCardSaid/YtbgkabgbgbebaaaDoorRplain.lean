/- What the reference's parser reads: the parser's function, cut off at a depth. Plain Lean. -/
import Derived.Test.YtbgkabgbgbebaaaDoorText
namespace Go.Proofs.YtbgkabgbgbebaaaDoor

def cut (d : Nat) : Option (Tm × List UInt8) → Option (Tm × List UInt8)
  | some (t, r) => if t.depth ≤ d then some (t, r) else none
  | none => none
theorem cut_some (d : Nat) (t : Tm) (r : List UInt8) : cut d (some (t, r)) = if t.depth ≤ d then some (t, r) else none := rfl
/-- a term of at most d levels at the head of a text, and the rest -/
def rterm (d n : Nat) (l : List UInt8) : Option (Tm × List UInt8) := cut d (pterm n l)
/-- the kids that are still to come, of at most d levels each -/
def rkids (d n : Nat) (w : ByteArray) (acc : List Tm) (l : List UInt8) : Option (Tm × List UInt8) := cut (d + 1) (pkids n w acc l)
def rnext (d n : Nat) (w : ByteArray) (acc : List Tm) : Option (Tm × List UInt8) → Option (Tm × List UInt8)
  | none => none
  | some (k, r) => rkids d n w (acc ++ [k]) r
theorem depths_append : ∀ a b : List Tm, Tm.depths (a ++ b) = max (Tm.depths a) (Tm.depths b)
  | [], b => by simp [Tm.depths]
  | t :: a, b => by simp only [List.cons_append, Tm.depths, depths_append a b]; omega
theorem rterm_zero (n : Nat) (l : List UInt8) : rterm 0 n l = none := by
  unfold rterm cut
  split
  · rename_i t r h
    obtain ⟨k, nm, s, l⟩ := t
    rw [if_neg (by rw [Tm.depth]; omega)]
  · rfl
theorem pterm_nil (n : Nat) : pterm n [] = none := by
  cases n with
  | zero => rfl
  | succ n => rw [pterm]; rfl
theorem rkids_nil (d n : Nat) (w : ByteArray) (acc : List Tm) : rkids d n w acc [] = none := by
  unfold rkids
  cases n with
  | zero => rfl
  | succ n =>
    by_cases ha : acc = []
    · subst ha
      rw [pkids_next n w [] [] rfl (.inl rfl), if_neg (by simp), pterm_nil]; rfl
    · rw [pkids_stop n w acc [] rfl ha rfl]; rfl
theorem rkids_close (d n : Nat) (w : ByteArray) (acc : List Tm) (l : List UInt8) (h : Lib.hasPrefix l [41] = true) (ha : Tm.depths acc ≤ d) : rkids d (n + 1) w acc l = some (.mk 3 w 0 acc, l.drop 1) := by
  unfold rkids
  rw [pkids, if_pos h]
  rw [cut_some, if_pos (by rw [Tm.depth]; omega)]
theorem rkids_stop (d n : Nat) (w : ByteArray) (acc : List Tm) (l : List UInt8) (h1 : Lib.hasPrefix l [41] = false) (h2 : acc ≠ []) (h3 : Lib.hasPrefix l [44, 32] = false) : rkids d (n + 1) w acc l = none := by
  unfold rkids; rw [pkids_stop n w acc l h1 h2 h3]; rfl
theorem rkids_next (d n : Nat) (w : ByteArray) (acc : List Tm) (l : List UInt8) (h1 : Lib.hasPrefix l [41] = false) (h2 : acc = [] ∨ Lib.hasPrefix l [44, 32] = true) :
    rkids d (n + 1) w acc l = rnext d n w acc (rterm d n (if acc ≠ [] then l.drop 2 else l)) := by
  unfold rkids rterm
  rw [pkids_next n w acc l h1 h2]
  generalize (if acc ≠ [] then l.drop 2 else l) = m
  cases hp : pterm n m with
  | none => rfl
  | some kr =>
    obtain ⟨k, r⟩ := kr
    show cut (d + 1) (pkids n w (acc ++ [k]) r) = rnext d n w acc (if k.depth ≤ d then some (k, r) else none)
    by_cases hd : k.depth ≤ d
    · rw [if_pos hd]; rfl
    · rw [if_neg hd]
      show _ = none
      cases hq : pkids n w (acc ++ [k]) r with
      | none => rfl
      | some tr =>
        obtain ⟨t, r'⟩ := tr
        obtain ⟨ks, rfl, -⟩ := (ptext n).2 _ _ _ _ _ hq
        rw [cut_some, if_neg]
        rw [Tm.depth, depths_append, depths_append]
        simp only [Tm.depths]; omega
theorem rterm_leaf (d n : Nat) (l : List UInt8) (h : ∀ t r, pterm n l = some (t, r) → t.kids = []) : rterm (d + 1) n l = pterm n l := by
  unfold rterm
  cases hp : pterm n l with
  | none => rfl
  | some tr =>
    obtain ⟨t, r⟩ := tr
    have := h t r hp
    obtain ⟨k, nm, s, ks⟩ := t
    simp only [Tm.kids] at this
    subst this
    rw [cut_some, if_pos (by rw [Tm.depth]; simp [Tm.depths])]
theorem pdepth : ∀ n, (∀ l t r, pterm n l = some (t, r) → 3 * t.depth + r.length ≤ l.length + 2) ∧ (∀ w acc l t r, pkids n w acc l = some (t, r) → ∃ k, t = .mk 3 w 0 (acc ++ k) ∧ r.length + 1 ≤ l.length ∧ 3 * Tm.depths k + r.length ≤ l.length + 1)
  | 0 => ⟨fun l t r h => by simp [pterm] at h, fun w acc l t r h => by simp [pkids] at h⟩
  | n + 1 => by
    obtain ⟨ih1, ih2⟩ := pdepth n
    have leaf : ∀ (k : Int) (x : ByteArray) (so : Int), (Tm.mk k x so []).depth = 1 := fun k x so => by simp [Tm.depth, Tm.depths]
    constructor
    · intro l t r h
      rw [pterm] at h
      by_cases hv : Lib.hasPrefix l [63] = true
      · rw [if_pos hv] at h
        by_cases hn : nameL ((l.drop 1).takeWhile partB) = false
        · rw [if_pos hn] at h; cases h
        · rw [if_neg hn, if_pos hv] at h
          have hw := wlen_pos (l := l.drop 1) (by simpa using hn)
          have hle := wlen_le (l.drop 1)
          rw [List.length_drop] at hle
          unfold pvar at h
          split at h
          · split at h
            · injection h with h; injection h with h1 h2; subst h1 h2
              rw [leaf]; simp only [List.length_drop]; omega
            · cases h
          · injection h with h; injection h with h1 h2; subst h1 h2
            rw [leaf]; simp only [List.length_drop]; omega
      · rw [if_neg hv] at h
        by_cases hn : nameL (l.takeWhile partB) = false
        · rw [if_pos hn] at h; cases h
        · rw [if_neg hn, if_neg hv] at h
          have hw := wlen_pos (l := l) (by simpa using hn)
          have hle := wlen_le l
          by_cases hp : Lib.hasPrefix (l.drop (wlen l)) [40] = false
          · rw [if_pos hp] at h
            unfold patom at h
            split at h
            · injection h with h; injection h with h1 h2; subst h1 h2
              rw [leaf]; simp only [List.length_drop]; omega
            · cases h
          · rw [if_neg hp] at h
            have hp' : Lib.hasPrefix (l.drop (wlen l)) [40] = true := by simpa using hp
            have hne := congrArg List.length (prefix_cons hp')
            obtain ⟨k, rfl, h1, h2⟩ := ih2 _ _ _ _ _ h
            simp only [List.length_drop, List.length_cons] at h1 h2 hne
            rw [Tm.depth, List.nil_append]
            omega
    · intro w acc l t r h
      rw [pkids] at h
      by_cases h1 : Lib.hasPrefix l [41] = true
      · rw [if_pos h1] at h
        have hne := congrArg List.length (prefix_cons h1)
        injection h with h; injection h with h3 h4
        subst h3 h4
        simp only [List.length_drop, List.length_cons] at hne ⊢
        exact ⟨[], by simp, by omega, by simp only [Tm.depths]; omega⟩
      · rw [if_neg h1] at h
        split at h
        · cases h
        · split at h
          · cases h
          · rename_i k r' hk
            have a1 := ih1 _ _ _ hk
            obtain ⟨ks, rfl, a2, a3⟩ := ih2 _ _ _ _ _ h
            have a4 := ((psize n).1 _ _ _ hk)
            have a5 := k.size_pos
            have hle : (if acc ≠ [] then l.drop 2 else l).length ≤ l.length := by split <;> simp
            exact ⟨k :: ks, by simp, by omega, by simp only [Tm.depths]; omega⟩
/-- The term with a text of at most 2000 bytes has fewer levels than the reference reads. -/
theorem parse_cut {l : List UInt8} (h : l.length ≤ 2000) : cut 800 (pterm (2 * l.length + 1) l) = pterm (2 * l.length + 1) l := by
  cases hp : pterm (2 * l.length + 1) l with
  | none => rfl
  | some tr =>
    obtain ⟨t, r⟩ := tr
    have := (pdepth _).1 _ _ _ hp
    rw [cut_some, if_pos (by omega)]
/-- what the reference reads behind the name of a variable or an atom -/
def rleaf (tk : Int) (nm : ByteArray) (l : List UInt8) : Option (Tm × List UInt8) :=
  if Lib.hasPrefix l [58] = true then (if (sorts (if tk = 1 then 1 else 0) l).2.1 = true then some (.mk tk nm (sorts (if tk = 1 then 1 else 0) l).1 [], l.drop (sorts (if tk = 1 then 1 else 0) l).2.2) else none)
  else if tk = 1 then some (.mk 1 nm 0 [], l) else none
theorem rleaf_var (nm : ByteArray) (l : List UInt8) : rleaf 1 nm l = pvar nm l := by unfold rleaf pvar; simp
theorem rleaf_atom (nm : ByteArray) (l : List UInt8) : rleaf 2 nm l = patom nm l := by
  unfold rleaf patom
  by_cases h : Lib.hasPrefix l [58] = true
  · rw [if_pos h]; rfl
  · rw [if_neg h, sorts_no 0 l (by simpa using h)]; rfl
end Go.Proofs.YtbgkabgbgbebaaaDoor
