/- A text that Parse takes is its substitution's text: plain. -/
import Derived.Test.YtipmibjhlpnhjaaGreatDoorSparseE
namespace Go.Proofs.YtipmibjhlpnhjaaGreatDoor
open Go.RowKit Go.Sort

theorem pstate_flat (l : List UInt8) : ∀ i, i ≤ l.length → l.take (pstate l i).b = ((pstate l i).out.map (· ++ [44, 32])).flatten := by
  intro i
  induction i with
  | zero => intro _; simp [pstate]
  | succ i ih =>
    intro hi
    have h0 := ih (by omega)
    obtain ⟨-, -, -, v4, v5, -⟩ := pstate_inv l i (by omega)
    rw [pstate]
    unfold pstep
    rw [List.getElem?_eq_getElem (by omega)]
    dsimp only
    split
    · rename_i h
      obtain ⟨c1, c2, c3⟩ := comma_len h.2
      have hb : (pstate l i).b ≤ i := by
        rcases Nat.lt_or_ge (pstate l i).b (i + 1) with g | g
        · omega
        · have := v5 (by omega)
          rw [c2] at this; cases this
      have hcm : (l.drop i).take 2 = [44, 32] := by have := h.2; unfold comma at this; exact beq_iff_eq.1 this
      rw [List.map_append, List.flatten_append, ← h0]
      show l.take (i + 2) = _
      rw [List.take_add, hcm]
      have e : l.take i = l.take (pstate l i).b ++ (l.take i).drop (pstate l i).b := by
        conv => lhs; rw [← List.take_append_drop (pstate l i).b (l.take i)]
        rw [List.take_take, Nat.min_eq_left hb]
      rw [List.map_singleton, List.flatten_singleton, ← List.append_assoc, ← e]
    · exact h0
theorem join_flat : ∀ (out : List (List UInt8)) (x : List UInt8), Lib.join (out ++ [x]) [44, 32] = (out.map (· ++ [44, 32])).flatten ++ x
  | [], x => by simp [Lib.join_one]
  | [y], x => by rw [List.cons_append, List.nil_append, Lib.join_cons]; simp [Lib.joinTail]
  | y :: z :: r, x => by
    have h := join_flat (z :: r) x
    rw [List.cons_append] at h ⊢
    rw [List.map_cons, List.flatten_cons, List.append_assoc, ← h, List.cons_append, Lib.join_cons, Lib.join_cons]
    simp [Lib.joinTail]
theorem join_pieces (l : List UInt8) : Lib.join (piecesE l) [44, 32] = l := by
  unfold piecesE
  rw [join_flat, ← pstate_flat l l.length (Nat.le_refl _), List.take_append_drop]
theorem cut_parts {p : List UInt8} (h : Lib.contains p [32, 61, 32] = true) : p = (Lib.cut p [32, 61, 32]).1 ++ [32, 61, 32] ++ (Lib.cut p [32, 61, 32]).2.1 := by
  unfold Lib.contains at h
  have h0 := of_decide_eq_true h
  obtain ⟨e, -⟩ | ⟨i, e, hi, ho, -⟩ := Lib.index_spec p [32, 61, 32]
  · omega
  unfold Lib.cut
  rw [if_pos h0, e]
  rw [occAt_take, beq_iff_eq] at ho
  show p = p.take i ++ [32, 61, 32] ++ p.drop (i + 3)
  rw [← ho, ← List.take_add, List.take_append_drop]
theorem line_bdP {p : List UInt8} (h : Lib.contains p [32, 61, 32] = true) (h1 : (parseE (Lib.cut p [32, 61, 32]).1).2 = 0) (h2 : (parseE (Lib.cut p [32, 61, 32]).2.1).2 = 0) : lineB (bdP p) = p := by
  unfold lineB bdP
  rw [(text_parseE h1).2, (text_parseE h2).2]
  exact (cut_parts h).symm
/-- the text of what was parsed -/
theorem format_parseSE {l : List UInt8} (h : (parseSE l).2 = 0) : validS (parseSE l).1 = 0 ∧ formatB (parseSE l).1 = l := by
  unfold parseSE at h ⊢
  split at h
  · simp at h
  rename_i g0
  rw [if_neg g0]
  simp only [not_or, Nat.not_lt, ne_eq, Classical.not_not] at g0
  obtain ⟨g1, g2, g3⟩ := g0
  have hsplit : l = [123] ++ (l.take (l.length - 1)).drop 1 ++ [125] := by
    have e1 : l.take (l.length - 1) = [123] ++ (l.take (l.length - 1)).drop 1 := by
      conv => lhs; rw [← List.take_append_drop 1 (l.take (l.length - 1))]
      congr 1
      rw [List.take_take, Nat.min_eq_left (by omega)]
      cases l with
      | nil => simp at g1
      | cons a r => simp at g2; rw [g2]; rfl
    have e2 : l.drop (l.length - 1) = [125] := by
      have hlt : l.length - 1 < l.length := by omega
      rw [List.drop_eq_getElem_cons hlt]
      rw [List.getElem?_eq_getElem hlt] at g3
      injection g3 with g3
      rw [g3, List.drop_of_length_le (by omega)]
    conv => lhs; rw [← List.take_append_drop (l.length - 1) l]
    rw [e2, ← e1]
  split at h
  · rename_i g4
    rw [if_pos g4]
    refine ⟨rfl, ?_⟩
    have : (l.take (l.length - 1)).drop 1 = [] := by
      apply List.eq_nil_of_length_eq_zero
      simp; omega
    rw [this] at hsplit
    rw [hsplit]; rfl
  · rename_i g4
    rw [if_neg g4]
    generalize (l.take (l.length - 1)).drop 1 = B at *
    have hj := join_pieces B
    generalize piecesE B = P at *
    unfold bodyE at h ⊢
    split at h
    · simp at h
    rename_i k1
    rw [if_neg k1]
    split at h
    · rename_i k2; exact absurd h k2
    rename_i k2
    rw [if_neg k2]
    split at h
    · rename_i k3; exact absurd h k3
    rename_i k3
    rw [if_neg k3]
    refine ⟨Classical.byContradiction k3, ?_⟩
    have key : ∀ Q : List (List UInt8), (∀ p ∈ Q, Lib.contains p [32, 61, 32] = true) → errP Q = 0 → (Q.map bdP).map lineB = Q := by
      intro Q
      induction Q with
      | nil => intro _ _; rfl
      | cons p r ih =>
        intro hc he
        rw [errP] at he
        split at he
        · rename_i m; exact absurd he m
        rename_i m1
        split at he
        · rename_i m; exact absurd he m
        rename_i m2
        rw [List.map_cons, List.map_cons, line_bdP (hc p (List.mem_cons_self ..)) (Classical.byContradiction m1) (Classical.byContradiction m2), ih (fun q hq => hc q (List.mem_cons_of_mem _ hq)) he]
    unfold formatB
    rw [key P (fun p hp => ?_) (Classical.byContradiction k2), hj, ← hsplit]
    have := k1
    rw [List.any_eq_true] at this
    cases hcp : Lib.contains p [32, 61, 32] with
    | true => rfl
    | false => exact absurd ⟨p, hp, by rw [hcp]; rfl⟩ this
end Go.Proofs.YtipmibjhlpnhjaaGreatDoor
