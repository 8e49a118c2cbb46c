/- The pieces of a substitution's text: plain. -/
import Derived.Test.YtipmibjhlpnhjaaGreatDoorSrpieces
namespace Go.Proofs.YtipmibjhlpnhjaaGreatDoor
open Go.RowKit Go.Sort

/-- the depth behind a text, if no comma stands at depth 0 and no equals sign anywhere -/
def scan : Int → List UInt8 → Option Int
  | d, [] => some d
  | d, c :: r => if (c.toNat : Int) = 44 ∧ d = 0 then none else scan (sdepth d c.toNat) r
theorem scan_append : ∀ (a b : List UInt8) (d : Int), scan d (a ++ b) = (scan d a).bind fun e => scan e b
  | [], b, d => rfl
  | c :: a, b, d => by
    rw [List.cons_append, scan, scan]
    split
    · rfl
    · exact scan_append a b _
theorem part_not {b : UInt8} (h : partB b = true) : (b.toNat : Int) ≠ 40 ∧ (b.toNat : Int) ≠ 41 ∧ (b.toNat : Int) ≠ 44 ∧ (b.toNat : Int) ≠ 61 := by
  have key : ∀ n : Int, partI n = true → n ≠ 40 ∧ n ≠ 41 ∧ n ≠ 44 ∧ n ≠ 61 := fun n h => by
    unfold partI at h
    simp at h
    omega
  exact key _ h
theorem scan_plain : ∀ (l : List UInt8) (d : Int), (∀ b ∈ l, (b.toNat : Int) ≠ 40 ∧ (b.toNat : Int) ≠ 41 ∧ (b.toNat : Int) ≠ 44) → scan d l = some d
  | [], _, _ => rfl
  | c :: r, d, h => by
    obtain ⟨h1, h2, h3⟩ := h c (List.mem_cons_self ..)
    rw [scan, if_neg (fun e => h3 e.1)]
    have : sdepth d c.toNat = d := by unfold sdepth; rw [if_neg h1, if_neg h2]
    rw [this]
    exact scan_plain r d fun b hb => h b (List.mem_cons_of_mem _ hb)
theorem scan_part (l : List UInt8) (d : Int) (h : ∀ b ∈ l, partB b = true) : scan d l = some d :=
  scan_plain l d fun b hb => ⟨(part_not (h b hb)).1, (part_not (h b hb)).2.1, (part_not (h b hb)).2.2.1⟩
mutual
theorem text_scan : ∀ (t : Tm) (d : Int), t.check = 0 → 0 ≤ d → scan d t.text = some d
  | .mk k n s l, d, h, hd => by
    rw [Tm.text]
    by_cases hk : k = 1 ∨ k = 2
    · obtain ⟨hs, hs5, -, hn⟩ := check_leaf hk h
      have hp := (nameL_parts hn).2.1
      have hw := word_part hs hs5
      have hall : ∀ x : List UInt8, (∀ b ∈ x, partB b = true ∨ b = 58 ∨ b = 63) → scan d x = some d := fun x hx => scan_plain x d fun b hb => by
        rcases hx b hb with g | rfl | rfl
        · exact ⟨(part_not g).1, (part_not g).2.1, (part_not g).2.2.1⟩
        · decide
        · decide
      rcases hk with rfl | rfl
      · rw [if_pos rfl]
        refine hall _ fun b hb => ?_
        rcases List.mem_cons.1 hb with rfl | hb
        · exact .inr (.inr rfl)
        rcases List.mem_append.1 hb with hb | hb
        · exact .inl (hp b hb)
        · split at hb
          · simp at hb
          · rcases List.mem_cons.1 hb with rfl | hb
            · exact .inr (.inl rfl)
            · exact .inl (hw b hb)
      · rw [if_neg (by decide), if_pos rfl]
        refine hall _ fun b hb => ?_
        rcases List.mem_append.1 hb with hb | hb
        · exact .inl (hp b hb)
        rcases List.mem_cons.1 hb with rfl | hb
        · exact .inr (.inl rfl)
        · exact .inl (hw b hb)
    · obtain ⟨rfl, -, hn, hc⟩ := check_app3 hk h
      rw [if_neg (by decide), if_neg (by decide), scan_append, scan_part _ d (nameL_parts hn).2.1]
      show scan d (40 :: (Tm.texts l ++ [41])) = some d
      rw [scan, if_neg (by intro e; exact absurd e.1 (by decide))]
      have e40 : sdepth d ((40 : UInt8).toNat : Int) = d + 1 := by unfold sdepth; exact if_pos rfl
      rw [e40, scan_append, texts_scan l (d + 1) hc (by omega)]
      show scan (d + 1) [41] = some d
      rw [scan, if_neg (by intro e; exact absurd e.1 (by decide)), scan]
      have e41 : sdepth (d + 1) ((41 : UInt8).toNat : Int) = d := by
        unfold sdepth
        rw [if_neg (by decide), if_pos (by rfl)]; omega
      rw [e41]
theorem texts_scan : ∀ (l : List Tm) (d : Int), Tm.checks l = 0 → 0 < d → scan d (Tm.texts l) = some d
  | [], d, _, _ => rfl
  | t :: r, d, h, hd => by
    obtain ⟨h1, h2⟩ := checks_cons h
    rw [Tm.texts, scan_append, text_scan t d h1 (by omega)]
    exact more_scan r d h2 hd
theorem more_scan : ∀ (l : List Tm) (d : Int), Tm.checks l = 0 → 0 < d → scan d (Tm.more l) = some d
  | [], d, _, _ => rfl
  | t :: r, d, h, hd => by
    obtain ⟨h1, h2⟩ := checks_cons h
    rw [Tm.more, scan, if_neg (by intro e; omega)]
    have e1 : sdepth d ((44 : UInt8).toNat : Int) = d := by unfold sdepth; rw [if_neg (by decide), if_neg (by decide)]
    rw [e1, scan, if_neg (by intro e; exact absurd e.1 (by decide))]
    have e2 : sdepth d ((32 : UInt8).toNat : Int) = d := by unfold sdepth; rw [if_neg (by decide), if_neg (by decide)]
    rw [e2, scan_append, text_scan t d h1 (by omega)]
    exact more_scan r d h2 hd
end
theorem line_scan {b : Bd} (h1 : b.1.check = 0) (h2 : b.2.check = 0) : scan 0 (lineB b) = some 0 := by
  unfold lineB
  rw [scan_append, scan_append, text_scan b.1 0 h1 (by decide)]
  show (scan 0 [32, 61, 32]).bind _ = _
  rw [scan_plain [32, 61, 32] 0 (by intro b hb; simp at hb; rcases hb with rfl | rfl | rfl <;> decide)]
  exact text_scan b.2 0 h2 (by decide)

theorem drop_head {l : List UInt8} {i : Nat} {c : UInt8} {r : List UInt8} (h : l.drop i = c :: r) : l[i]? = some c ∧ l.drop (i + 1) = r := by
  constructor
  · have := congrArg (·[0]?) h
    simpa using this
  · have := congrArg (List.drop 1) h
    simpa [List.drop_drop] using this
theorem pstate_scan (l : List UInt8) (b : Nat) (out : List (List UInt8)) (e : Int) (rest : List UInt8) : ∀ (x : List UInt8) (i : Nat) (d : Int), l.drop i = x ++ rest → pstate l i = ⟨d, b, out⟩ → scan d x = some e →
    pstate l (i + x.length) = ⟨e, b, out⟩
  | [], i, d, _, hp, hs => by
    have : d = e := by injection hs
    rw [← this]; exact hp
  | c :: x, i, d, hd, hp, hs => by
    obtain ⟨h1, h2⟩ := drop_head hd
    rw [scan] at hs
    split at hs
    · cases hs
    · rename_i hne
      have hn : pstate l (i + 1) = ⟨sdepth d c.toNat, b, out⟩ := by
        rw [pstate, hp]
        unfold pstep
        rw [h1]
        dsimp only
        rw [if_neg]
        rintro ⟨g1, g2⟩
        have h44 := (comma_len g2).2.1
        rw [h1] at h44
        have hc : c = 44 := by injection h44
        have hc2 : (c.toNat : Int) = 44 := by rw [hc]; rfl
        have : sdepth d c.toNat = d := by unfold sdepth; rw [hc2, if_neg (by decide), if_neg (by decide)]
        exact hne ⟨hc2, by rw [← this]; exact g1⟩
      have := pstate_scan l b out e rest x (i + 1) _ h2 hn hs
      rw [List.length_cons, show i + (x.length + 1) = i + 1 + x.length by omega]
      exact this
theorem pieces_join (l : List UInt8) : ∀ (r : List (List UInt8)) (x : List UInt8) (i : Nat) (out : List (List UInt8)), i ≤ l.length → (∀ y ∈ x :: r, scan 0 y = some 0) → l.drop i = Lib.join (x :: r) [44, 32] → pstate l i = ⟨0, i, out⟩ →
    (pstate l l.length).out ++ [l.drop (pstate l l.length).b] = out ++ x :: r
  | [], x, i, out, hi, hs, hd, hp => by
    rw [Lib.join_one] at hd
    have h := pstate_scan l i out 0 [] x i 0 (by rw [List.append_nil]; exact hd) hp (hs x (List.mem_cons_self ..))
    have hl : i + x.length = l.length := by
      have := congrArg List.length hd
      simp at this; omega
    rw [hl] at h
    rw [h]
    show out ++ [l.drop i] = _
    rw [hd]
  | y :: r, x, i, out, hi, hs, hd, hp => by
    have hj : Lib.join (x :: y :: r) [44, 32] = x ++ (44 :: 32 :: Lib.join (y :: r) [44, 32]) := by
      rw [Lib.join_cons, Lib.join_cons]; simp [Lib.joinTail]
    rw [hj] at hd
    have h := pstate_scan l i out 0 _ x i 0 hd hp (hs x (List.mem_cons_self ..))
    have hdj : l.drop (i + x.length) = 44 :: 32 :: Lib.join (y :: r) [44, 32] := by
      have := congrArg (List.drop x.length) hd
      rw [List.drop_drop, List.drop_left] at this
      exact this
    obtain ⟨g1, g2⟩ := drop_head hdj
    obtain ⟨g3, g4⟩ := drop_head g2
    have hx : (l.take (i + x.length)).drop i = x := by
      rw [List.drop_take, hd, Nat.add_sub_cancel_left, List.take_left]
    have hcm : comma l (i + x.length) = true := by unfold comma; rw [hdj]; rfl
    have hn : pstate l (i + x.length + 1) = ⟨0, i + x.length + 2, out ++ [x]⟩ := by
      rw [pstate, h]
      unfold pstep
      rw [g1]
      dsimp only
      rw [if_pos ⟨rfl, hcm⟩, hx]
      rfl
    have hcm2 : comma l (i + x.length + 1) = false := by
      cases hc : comma l (i + x.length + 1) with
      | false => rfl
      | true =>
        have := (comma_len hc).2.1
        rw [g3] at this; cases this
    have hn2 : pstate l (i + x.length + 2) = ⟨0, i + x.length + 2, out ++ [x]⟩ := by
      show pstep l (i + x.length + 1) (pstate l (i + x.length + 1)) = _
      rw [hn]
      unfold pstep
      rw [g3]
      dsimp only
      rw [if_neg (by rw [hcm2]; simp)]
      rfl
    have hle : i + x.length + 2 ≤ l.length := by have := (comma_len hcm).1; omega
    have := pieces_join l r y (i + x.length + 2) (out ++ [x]) hle (fun z hz => hs z (List.mem_cons_of_mem _ hz)) g4 hn2
    rw [this, List.append_assoc]; rfl
theorem piecesE_join (x : List UInt8) (r : List (List UInt8)) (hs : ∀ y ∈ x :: r, scan 0 y = some 0) : piecesE (Lib.join (x :: r) [44, 32]) = x :: r := by
  unfold piecesE
  exact pieces_join _ r x 0 [] (Nat.zero_le _) hs rfl rfl
end Go.Proofs.YtipmibjhlpnhjaaGreatDoor
