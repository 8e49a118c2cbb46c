/- What Parse of a substitution answers, and that it leads back: plain. -/
import Derived.Test.YtipmibjhlpnhjaaGreatDoorSback
namespace Go.Proofs.YtipmibjhlpnhjaaGreatDoor
open Go.RowKit Go.Sort

def bdP (p : List UInt8) : Bd := ((parseE (Lib.cut p [32, 61, 32]).1).1, (parseE (Lib.cut p [32, 61, 32]).2.1).1)
def errP : List (List UInt8) → Int
  | [] => 0
  | p :: r => if (parseE (Lib.cut p [32, 61, 32]).1).2 ≠ 0 then (parseE (Lib.cut p [32, 61, 32]).1).2 else if (parseE (Lib.cut p [32, 61, 32]).2.1).2 ≠ 0 then (parseE (Lib.cut p [32, 61, 32]).2.1).2 else errP r
def bodyE (P : List (List UInt8)) : List Bd × Int :=
  if (P.any fun p => !Lib.contains p [32, 61, 32]) = true then ([], 2) else if errP P ≠ 0 then ([], errP P) else if validS (P.map bdP) ≠ 0 then ([], validS (P.map bdP)) else (P.map bdP, 0)
def parseSE (l : List UInt8) : List Bd × Int :=
  if l.length < 2 ∨ l[0]? ≠ some 123 ∨ l[l.length - 1]? ≠ some 125 then ([], 2) else if l.length = 2 then ([], 0) else bodyE (piecesE ((l.take (l.length - 1)).drop 1))

mutual
theorem text_no : ∀ (t : Tm), t.check = 0 → ∀ b ∈ t.text, b ≠ 61
  | .mk k n s l, h, b, hb => by
    rw [Tm.text] at hb
    have part : partB b = true → b ≠ 61 := fun g e => (part_not g).2.2.2 (by rw [e]; rfl)
    by_cases hk : k = 1 ∨ k = 2
    · obtain ⟨hs, hs5, -, hn⟩ := check_leaf hk h
      have hp := (nameL_parts hn).2.1
      have hw := word_part hs hs5
      rcases hk with rfl | rfl
      · rw [if_pos rfl] at hb
        rcases List.mem_cons.1 hb with rfl | hb
        · decide
        rcases List.mem_append.1 hb with hb | hb
        · exact part (hp b hb)
        · split at hb
          · simp at hb
          · rcases List.mem_cons.1 hb with rfl | hb
            · decide
            · exact part (hw b hb)
      · rw [if_neg (by decide), if_pos rfl] at hb
        rcases List.mem_append.1 hb with hb | hb
        · exact part (hp b hb)
        rcases List.mem_cons.1 hb with rfl | hb
        · decide
        · exact part (hw b hb)
    · obtain ⟨rfl, -, hn, hc⟩ := check_app3 hk h
      rw [if_neg (by decide), if_neg (by decide)] at hb
      rcases List.mem_append.1 hb with hb | hb
      · exact part ((nameL_parts hn).2.1 b hb)
      rcases List.mem_cons.1 hb with rfl | hb
      · decide
      rcases List.mem_append.1 hb with hb | hb
      · exact texts_no l hc b hb
      · rw [List.mem_singleton] at hb; rw [hb]; decide
theorem texts_no : ∀ (l : List Tm), Tm.checks l = 0 → ∀ b ∈ Tm.texts l, b ≠ 61
  | [], _, b, hb => by simp [Tm.texts] at hb
  | t :: r, h, b, hb => by
    obtain ⟨h1, h2⟩ := checks_cons h
    rw [Tm.texts] at hb
    rcases List.mem_append.1 hb with hb | hb
    · exact text_no t h1 b hb
    · exact more_no r h2 b hb
theorem more_no : ∀ (l : List Tm), Tm.checks l = 0 → ∀ b ∈ Tm.more l, b ≠ 61
  | [], _, b, hb => by simp [Tm.more] at hb
  | t :: r, h, b, hb => by
    obtain ⟨h1, h2⟩ := checks_cons h
    rw [Tm.more] at hb
    rcases List.mem_cons.1 hb with rfl | hb
    · decide
    rcases List.mem_cons.1 hb with rfl | hb
    · decide
    rcases List.mem_append.1 hb with hb | hb
    · exact text_no t h1 b hb
    · exact more_no r h2 b hb
end
theorem line_index (x y : List UInt8) (hx : ∀ b ∈ x, b ≠ 61) : Lib.index (x ++ [32, 61, 32] ++ y) [32, 61, 32] = x.length := by
  refine Lib.index_first (by simp) ?_ ?_
  · rw [occAt_take, List.append_assoc, List.drop_left]; rfl
  · intro j hj
    rw [occAt_take, beq_eq_false_iff_ne]
    intro e
    have h1 := congrArg (·[1]?) e
    simp only [List.getElem?_take, List.getElem?_drop] at h1
    simp at h1
    by_cases hj2 : j + 1 < x.length
    · rw [List.getElem?_append_left hj2] at h1
      exact hx 61 (List.mem_of_getElem? h1) rfl
    · have : j + 1 = x.length := by omega
      rw [this, List.getElem?_append_right (Nat.le_refl _)] at h1
      simp at h1
theorem line_cut {b : Bd} (h1 : b.1.check = 0) : Lib.cut (lineB b) [32, 61, 32] = (b.1.text, b.2.text, true) := by
  have h := line_index b.1.text b.2.text (text_no b.1 h1)
  unfold Lib.cut lineB
  rw [h, if_pos (by omega)]
  simp
theorem line_contains {b : Bd} (h1 : b.1.check = 0) : Lib.contains (lineB b) [32, 61, 32] = true := by
  have h := line_index b.1.text b.2.text (text_no b.1 h1)
  unfold Lib.contains lineB
  rw [h]
  exact decide_eq_true (by omega)
/-- Parse leads back -/
theorem parseSE_format {s : List Bd} (h : validS s = 0) : parseSE (formatB s) = (s, 0) := by
  have hz := validS_zero h
  have hb : ∀ b ∈ s, b.1.valid = 0 ∧ b.2.valid = 0 := fun b hb => ⟨(bindE_zero (hz.2.1 b hb)).1, (bindE_zero (hz.2.1 b hb)).2.2.2.1⟩
  cases s with
  | nil => rfl
  | cons x r =>
    have hj : formatB (x :: r) = [123] ++ Lib.join ((x :: r).map lineB) [44, 32] ++ [125] := rfl
    have hlen : 3 ≤ (Lib.join ((x :: r).map lineB) [44, 32]).length := by
      rw [List.map_cons, Lib.join_cons]; unfold lineB; simp; omega
    obtain ⟨J, hJ⟩ : ∃ J, J = Lib.join ((x :: r).map lineB) [44, 32] := ⟨_, rfl⟩
    rw [← hJ] at hj hlen
    have hl : (formatB (x :: r)).length = J.length + 2 := by rw [hj]; simp
    have hmid : ((formatB (x :: r)).take ((formatB (x :: r)).length - 1)).drop 1 = J := by
      rw [hl, hj, show J.length + 2 - 1 = ([123] ++ J).length by simp, List.take_left]; rfl
    unfold parseSE
    rw [if_neg, if_neg (by omega), hmid, hJ, List.map_cons, piecesE_join, ← List.map_cons]
    · unfold bodyE
      have hany : ((x :: r).map lineB).any (fun p => !Lib.contains p [32, 61, 32]) = false := by
        rw [List.any_eq_false]
        intro p hp
        obtain ⟨b, hb', rfl⟩ := List.mem_map.1 hp
        rw [line_contains (valid_check (hb b hb').1).1]; simp
      have herr : ∀ l : List Bd, (∀ b ∈ l, b.1.valid = 0 ∧ b.2.valid = 0) → errP (l.map lineB) = 0 ∧ (l.map lineB).map bdP = l := by
        intro l
        induction l with
        | nil => intro _; exact ⟨rfl, rfl⟩
        | cons b r ih =>
          intro hl
          obtain ⟨k1, k2⟩ := hl b (List.mem_cons_self ..)
          obtain ⟨i1, i2⟩ := ih fun c hc => hl c (List.mem_cons_of_mem _ hc)
          have hc := line_cut (b := b) (valid_check k1).1
          constructor
          · rw [List.map_cons, errP, hc, parseE_text k1, parseE_text k2, if_neg (by simp), if_neg (by simp)]
            exact i1
          · rw [List.map_cons, List.map_cons, i2]
            congr 1
            unfold bdP
            rw [hc, parseE_text k1, parseE_text k2]
      obtain ⟨e1, e2⟩ := herr (x :: r) hb
      rw [hany, if_neg (by simp), e1, if_neg (by simp), e2, h, if_neg (by simp)]
    · intro y hy
      rw [← List.map_cons] at hy
      obtain ⟨b, hb', rfl⟩ := List.mem_map.1 hy
      exact line_scan (valid_check (hb b hb').1).1 (valid_check (hb b hb').2).1
    · rw [hl, hj]
      rintro (g | g | g)
      · omega
      · exact g rfl
      · apply g
        rw [show J.length + 2 - 1 = ([123] ++ J).length by simp, List.getElem?_append_right (Nat.le_refl _)]
        simp
end Go.Proofs.YtipmibjhlpnhjaaGreatDoor
