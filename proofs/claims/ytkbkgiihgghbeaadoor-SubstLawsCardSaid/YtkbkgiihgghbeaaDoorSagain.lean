/- What Restrict and Idempotent mean: plain. -/
import Derived.Test.YtkbkgiihgghbeaaDoorSrestr
namespace Go.Proofs.YtkbkgiihgghbeaaDoor

theorem getS_restr (l : List Tm) (x : Tm) (h : (l.any fun t => occ x t) = true) : ∀ s : List Bd, getS (restrE s l) x = getS s x
  | [] => rfl
  | b :: r => by
    have ih := getS_restr l x h r
    unfold restrE at ih ⊢
    rw [List.filter_cons, getS]
    split
    · rw [getS, ih]
    · rename_i hn
      split
      · rename_i he; rw [he] at hn; exact absurd h hn
      · exact ih
mutual
theorem put_restr (l : List Tm) (s : List Bd) : ∀ t : Tm, (∀ x ∈ t.all, (l.any fun t => occ x t) = true) → t.put (restrE s l) = t.put s
  | .mk k n so kids, h => by
    rw [Tm.put, Tm.put]
    split
    · exact getS_restr l _ (h _ (by rw [Tm.all]; exact List.mem_cons_self ..)) s
    · rw [puts_restr l s kids (fun x hx => h x (by rw [Tm.all]; exact List.mem_cons_of_mem _ hx))]
theorem puts_restr (l : List Tm) (s : List Bd) : ∀ k : List Tm, (∀ x ∈ Tm.alls k, (l.any fun t => occ x t) = true) → Tm.puts (restrE s l) k = Tm.puts s k
  | [], _ => rfl
  | t :: r, h => by
    rw [Tm.puts, Tm.puts, put_restr l s t (fun x hx => h x (by rw [Tm.alls]; exact List.mem_append_left _ hx)), puts_restr l s r (fun x hx => h x (by rw [Tm.alls]; exact List.mem_append_right _ hx))]
end
theorem put_restr_mem {l : List Tm} (s : List Bd) {t : Tm} (h : t ∈ l) : t.put (restrE s l) = t.put s :=
  put_restr l s t fun x hx => by
    rw [List.any_eq_true]
    exact ⟨t, h, by simpa [occ] using hx⟩
theorem valid_restr {s : List Bd} (l : List Tm) (h : validS s = 0) : validS (restrE s l) = 0 := by
  obtain ⟨h1, h2, h3⟩ := validS_zero h
  exact validS_of (Nat.le_trans (restrE_length s l) h1) (fun b hb => h2 b (List.mem_filter.1 hb).1) (h3.filter _)
theorem errT_congr {s s' : List Bd} : ∀ l : List Tm, (∀ t ∈ l, t.put s = t.put s') → errT s l = errT s' l
  | [], _ => rfl
  | t :: r, h => by
    have e : applyE s t = applyE s' t := by unfold applyE; rw [h t (List.mem_cons_self ..)]
    rw [errT, errT, e, errT_congr r (fun u hu => h u (List.mem_cons_of_mem _ hu))]
theorem all_restr {s : List Bd} (l : List Tm) (h : validS s = 0) : allE (restrE s l) l = allE s l := by
  unfold allE
  rw [h, valid_restr l h, errT_congr l (fun t ht => put_restr_mem s ht), List.map_congr_left (fun t ht => put_restr_mem s ht)]
mutual
theorem put_none (s : List Bd) : ∀ t : Tm, (∀ b ∈ s, b.1 ∉ t.all) → t.put s = t
  | .mk k n so l, h => by
    rw [Tm.put]
    split
    · exact (getS_not (fun b hb e => h b hb (by rw [Tm.all, ← e]; exact List.mem_cons_self ..))).1
    · rw [puts_none s l (fun b hb hx => h b hb (by rw [Tm.all]; exact List.mem_cons_of_mem _ hx))]
theorem puts_none (s : List Bd) : ∀ l : List Tm, (∀ b ∈ s, b.1 ∉ Tm.alls l) → Tm.puts s l = l
  | [], _ => rfl
  | t :: r, h => by
    rw [Tm.puts, put_none s t (fun b hb hx => h b hb (by rw [Tm.alls]; exact List.mem_append_left _ hx)), puts_none s r (fun b hb hx => h b hb (by rw [Tm.alls]; exact List.mem_append_right _ hx))]
end
theorem getS_cases (x : Tm) : ∀ s : List Bd, (∃ b ∈ s, getS s x = b.2) ∨ (getS s x = x ∧ ∀ b ∈ s, b.1 ≠ x)
  | [] => .inr ⟨rfl, fun _ h => by simp at h⟩
  | b :: r => by
    rw [getS]
    split
    · exact .inl ⟨b, List.mem_cons_self .., rfl⟩
    · rename_i hn
      rcases getS_cases x r with ⟨c, hc, e⟩ | ⟨e, h⟩
      · exact .inl ⟨c, List.mem_cons_of_mem _ hc, e⟩
      · exact .inr ⟨e, fun c hc => by
          rcases List.mem_cons.1 hc with rfl | hc
          · exact hn
          · exact h c hc⟩
theorem idemE_iff {s : List Bd} : idemE s = true ↔ ∀ a ∈ s, ∀ b ∈ s, a.1 ∉ b.2.all := by
  unfold idemE
  rw [List.all_eq_true]
  constructor
  · intro h a ha b hb hm
    have := h a ha
    rw [Bool.not_eq_true', List.any_eq_false] at this
    exact this b hb (by simpa [occ] using hm)
  · intro h a ha
    rw [Bool.not_eq_true', List.any_eq_false]
    intro b hb hm
    exact h a ha b hb (by simpa [occ] using hm)
mutual
theorem put_put (s : List Bd) (h : ∀ a ∈ s, ∀ b ∈ s, a.1 ∉ b.2.all) : ∀ t : Tm, (t.put s).put s = t.put s
  | .mk k n so l => by
    rw [Tm.put]
    by_cases hk : k = 1
    · rw [if_pos hk]
      rcases getS_cases (.mk k n so l) s with ⟨b, hb, e⟩ | ⟨e, hn⟩
      · rw [e]; exact put_none s b.2 (fun a ha => h a ha b hb)
      · rw [e, Tm.put, if_pos hk]; exact e
    · rw [if_neg hk, Tm.put, if_neg hk, puts_puts s h l]
theorem puts_puts (s : List Bd) (h : ∀ a ∈ s, ∀ b ∈ s, a.1 ∉ b.2.all) : ∀ l : List Tm, Tm.puts s (Tm.puts s l) = Tm.puts s l
  | [] => rfl
  | t :: r => by rw [Tm.puts, Tm.puts, put_put s h t, puts_puts s h r]
end
theorem errT_zero {s : List Bd} : ∀ {l : List Tm}, errT s l = 0 → ∀ t ∈ l, t.valid = 0 ∧ (t.put s).valid = 0
  | [], _, t, ht => by simp at ht
  | x :: r, h, t, ht => by
    rw [errT] at h
    split at h
    · rename_i g; exact absurd h g
    · rename_i g
      rcases List.mem_cons.1 ht with rfl | ht
      · unfold applyE at g
        split at g
        · rename_i g2; exact absurd (by simpa using g) g2
        · rename_i g1
          split at g
          · rename_i g2; exact absurd (by simpa using g) g2
          · rename_i g2; exact ⟨by omega, by omega⟩
      · exact errT_zero h t ht
theorem errT_of {s : List Bd} : ∀ {l : List Tm}, (∀ t ∈ l, t.valid = 0 ∧ (t.put s).valid = 0) → errT s l = 0
  | [], _ => rfl
  | x :: r, h => by
    obtain ⟨h1, h2⟩ := h x (List.mem_cons_self ..)
    have e : (applyE s x).2 = 0 := by unfold applyE; rw [if_neg (by simpa using h1), if_neg (by simpa using h2)]
    rw [errT, if_neg (by simpa using e)]
    exact errT_of fun t ht => h t (List.mem_cons_of_mem _ ht)
theorem allE_ok {s : List Bd} {l : List Tm} (h : (allE s l).2 = 0) : validS s = 0 ∧ l.length ≤ 200 ∧ errT s l = 0 ∧ (allE s l).1 = l.map (Tm.put s) := by
  unfold allE at h ⊢
  split at h
  · rename_i g; exact absurd h g
  · rename_i g1
    split at h
    · simp at h
    · rename_i g2
      split at h
      · rename_i g; exact absurd h g
      · rename_i g3
        rw [if_neg g1, if_neg g2, if_neg g3]
        exact ⟨by omega, by omega, by omega, rfl⟩
/-- an idempotent substitution has no further effect -/
theorem all_again {s : List Bd} {l : List Tm} (h : (allE s l).2 = 0) (hi : idemE s = true) : allE s (allE s l).1 = allE s l := by
  obtain ⟨h1, h2, h3, h4⟩ := allE_ok h
  have hp := put_put s (idemE_iff.1 hi)
  have he := errT_zero h3
  have e2 : errT s (l.map (Tm.put s)) = 0 := errT_of fun t ht => by
    obtain ⟨u, hu, rfl⟩ := List.mem_map.1 ht
    rw [hp u]
    exact ⟨(he u hu).2, (he u hu).2⟩
  rw [h4]
  conv => lhs; unfold allE
  rw [if_neg (by simpa using h1), if_neg (by rw [List.length_map]; omega), if_neg (by simpa using e2), List.map_map]
  have e3 : l.map (Tm.put s ∘ Tm.put s) = l.map (Tm.put s) := List.map_congr_left (fun t _ => hp t)
  rw [e3]
  conv => rhs; unfold allE
  rw [if_neg (by simpa using h1), if_neg (by omega), if_neg (by simpa using h3)]
end Go.Proofs.YtkbkgiihgghbeaaDoor
