/- What a composition does: plain. -/
import Derived.Test.YtkbkgiihgghbeaaDoorSagain
namespace Go.Proofs.YtkbkgiihgghbeaaDoor

theorem getS_cases' (x : Tm) : ∀ s : List Bd, (∃ b ∈ s, b.1 = x ∧ getS s x = b.2) ∨ (getS s x = x ∧ ∀ b ∈ s, b.1 ≠ x)
  | [] => .inr ⟨rfl, fun _ h => by simp at h⟩
  | b :: r => by
    rw [getS]
    split
    · rename_i he; exact .inl ⟨b, List.mem_cons_self .., he, rfl⟩
    · rename_i hn
      rcases getS_cases' x r with ⟨c, hc, e1, e⟩ | ⟨e, h⟩
      · exact .inl ⟨c, List.mem_cons_of_mem _ hc, e1, e⟩
      · exact .inr ⟨e, fun c hc => by
          rcases List.mem_cons.1 hc with rfl | hc
          · exact hn
          · exact h c hc⟩
theorem valid_chk {t : Tm} (h : t.valid = 0) : t.check = 0 := by
  unfold Tm.valid at h
  split at h
  · omega
  · rename_i g; exact Classical.byContradiction g
/-- what a checked node is -/
theorem check_kind {k : Int} {n : ByteArray} {so : Int} {l : List Tm} (h : (Tm.mk k n so l).check = 0) (hk : k ≠ 1) : (k = 2 ∧ l = []) ∨ (k = 3 ∧ so = 0 ∧ Tm.checks l = 0) := by
  rw [Tm.check] at h
  by_cases h2 : k = 2
  · rw [if_pos (.inr h2)] at h
    split at h
    · omega
    · rename_i g
      exact .inl ⟨h2, Classical.byContradiction fun e => g (.inr (.inr e))⟩
  · rw [if_neg (by omega)] at h
    by_cases h3 : k = 3
    · rw [if_pos h3] at h
      split at h
      · omega
      · split at h
        · omega
        · split at h
          · omega
          · rename_i g _ _; exact .inr ⟨h3, by omega, h⟩
    · rw [if_neg h3] at h; omega
mutual
theorem put_check {s : List Bd} (hs : ∀ b ∈ s, b.2.check = 0) : ∀ t : Tm, t.check = 0 → (t.put s).check = 0
  | .mk k n so l, h => by
    rw [Tm.put]
    split
    · rcases getS_cases (.mk k n so l) s with ⟨b, hb, e⟩ | ⟨e, -⟩
      · rw [e]; exact hs b hb
      · rw [e]; exact h
    · rename_i hk
      rcases check_kind h hk with ⟨h2, rfl⟩ | ⟨h3, h4, h5⟩
      · exact h
      · subst h3
        have h6 := puts_check hs l h5
        rw [Tm.check] at h ⊢
        rw [Tm.puts_length]
        rw [if_neg (by omega), if_pos rfl] at h ⊢
        split at h
        · omega
        · split at h
          · omega
          · split at h
            · omega
            · rename_i g1 g2 g3
              rw [if_neg g1, if_neg g2, if_neg g3]; exact h6
theorem puts_check {s : List Bd} (hs : ∀ b ∈ s, b.2.check = 0) : ∀ l : List Tm, Tm.checks l = 0 → Tm.checks (Tm.puts s l) = 0
  | [], _ => rfl
  | t :: r, h => by
    rw [Tm.checks] at h
    split at h
    · rename_i g; exact absurd h g
    · rename_i g
      rw [Tm.puts, Tm.checks, if_neg (by simpa using put_check hs t (by simpa using g))]
      exact puts_check hs r h
end
theorem valid_put {s : List Bd} (hs : validS s = 0) {t : Tm} (ht : t.valid = 0) : (t.put s).valid = 0 ∨ (t.put s).valid = 3 := by
  have h := put_check (s := s) (fun b hb => valid_chk (bindE_zero ((validS_zero hs).2.1 b hb)).2.2.2.1) t (valid_chk ht)
  unfold Tm.valid
  rw [if_neg (by simpa using h)]
  split
  · exact .inr rfl
  · exact .inl rfl
theorem errS_small {s t : List Bd} (hs : ∀ b ∈ s, b.2.valid = 0) (ht : validS t = 0) : errS t s = 0 ∨ errS t s = 3 := by
  induction s with
  | nil => exact .inl rfl
  | cons b r ih =>
    rw [errS]
    split
    · rename_i g
      have hb := hs b (List.mem_cons_self ..)
      unfold applyE at g ⊢
      rw [if_neg (by simpa using hb)] at g ⊢
      split at g
      · rename_i g2
        rw [if_pos g2]
        rcases valid_put ht hb with h | h
        · exact absurd h g2
        · exact .inr h
      · simp at g
    · exact ih fun c hc => hs c (List.mem_cons_of_mem _ hc)
theorem valid_terms {s : List Bd} (hs : validS s = 0) : ∀ b ∈ s, b.2.valid = 0 := fun b hb => (bindE_zero ((validS_zero hs).2.1 b hb)).2.2.2.1
/-- a composition of valid substitutions can only be too large -/
theorem compose_small {s t : List Bd} (hs : validS s = 0) (ht : validS t = 0) : (composeE s t).2 = 0 ∨ (composeE s t).2 = 3 := by
  unfold composeE
  rw [if_neg (by simpa using hs), if_neg (by simpa using ht)]
  split
  · exact errS_small (valid_terms hs) ht
  · split
    · exact .inr rfl
    · exact .inl rfl
theorem compose_ok {s t : List Bd} (h : (composeE s t).2 = 0) : validS s = 0 ∧ validS t = 0 ∧ errS t s = 0 ∧ (joinS s t).length ≤ 200 ∧ (composeE s t).1 = sortS (joinS s t) := by
  unfold composeE at h ⊢
  split at h
  · rename_i g; exact absurd h g
  · rename_i g1
    split at h
    · rename_i g; exact absurd h g
    · rename_i g2
      split at h
      · rename_i g; exact absurd h g
      · rename_i g3
        split at h
        · simp at h
        · rename_i g4
          rw [if_neg g1, if_neg g2, if_neg g3, if_neg g4]
          exact ⟨by omega, by omega, by omega, by omega, rfl⟩
theorem errS_zero {t : List Bd} : ∀ {s : List Bd}, errS t s = 0 → ∀ b ∈ s, (b.2.put t).valid = 0
  | [], _, b, hb => by simp at hb
  | c :: r, h, b, hb => by
    rw [errS] at h
    split at h
    · rename_i g; exact absurd h g
    · rename_i g
      rcases List.mem_cons.1 hb with rfl | hb
      · unfold applyE at g
        split at g
        · rename_i g2; exact absurd (by simpa using g) g2
        · split at g
          · rename_i g2; exact absurd (by simpa using g) g2
          · rename_i g2; omega
      · exact errS_zero h b hb

theorem fits_iff {x t : Tm} (hx : x.valid = 0) (ht : t.valid = 0) (hk : x.kind = 1) : fits x t = true ↔ (x.sort = 0 ∨ (t.kind ≠ 3 ∧ t.sort = x.sort)) := by
  unfold fits
  simp [hx, ht, hk]
theorem bindE_of {b : Bd} (h1 : b.1.valid = 0) (h2 : b.1.kind = 1) (h3 : b.1 ≠ b.2) (h4 : b.2.valid = 0) (h5 : fits b.1 b.2 = true) : bindE b = 0 := by
  rw [bindE_4 h1 h2 h3 h4, h5]; rfl
/-- a term that fits still fits with its variables replaced -/
theorem fits_put {t : List Bd} (ht : validS t = 0) {x u : Tm} (hx : x.valid = 0) (hk : x.kind = 1) (hu : u.valid = 0) (hf : fits x u = true) (hv : (u.put t).valid = 0) : fits x (u.put t) = true := by
  rw [fits_iff hx hv hk]
  rw [fits_iff hx hu hk] at hf
  rcases hf with h | ⟨h1, h2⟩
  · exact .inl h
  · by_cases h0 : x.sort = 0
    · exact .inl h0
    refine .inr ?_
    obtain ⟨k, n, so, l⟩ := u
    rw [Tm.put]
    by_cases hk1 : k = 1
    · rw [if_pos hk1]
      rcases getS_cases' (.mk k n so l) t with ⟨b, hb, e1, e⟩ | ⟨e, -⟩
      · have hbb := bindE_zero ((validS_zero ht).2.1 b hb)
        rw [e]
        have h6 := (fits_iff hbb.1 hbb.2.2.2.1 hbb.2.1).1 hbb.2.2.2.2
        rw [e1] at h6
        rcases h6 with h6 | ⟨h6, h7⟩
        · exact absurd (h2.symm.trans h6) h0
        · exact ⟨h6, h7.trans h2⟩
      · rw [e]; exact ⟨h1, h2⟩
    · rw [if_neg hk1]; exact ⟨h1, h2⟩

/-- the composition is a valid substitution -/
theorem compose_valid {s t : List Bd} (h : (composeE s t).2 = 0) : validS (composeE s t).1 = 0 := by
  obtain ⟨hs, ht, he, hl, e⟩ := compose_ok h
  rw [e]
  have zs := validS_zero hs
  have zt := validS_zero ht
  have ap : VarsApart (joinS s t) := joinS_apart (vars_apart zs.2.2) (vars_apart zt.2.2)
  refine validS_of (by rw [sortS_length]; exact hl) (fun b hb => ?_) ?_
  · have hb := sortS_mem hb
    unfold joinS at hb
    rcases List.mem_append.1 hb with hb | hb
    · unfold mapS at hb
      obtain ⟨hb, hne⟩ := List.mem_filter.1 hb
      obtain ⟨c, hc, rfl⟩ := List.mem_map.1 hb
      have hcc := bindE_zero (zs.2.1 c hc)
      have hv := errS_zero he c hc
      exact bindE_of hcc.1 hcc.2.1 (by simpa using hne) hv (fits_put ht hcc.1 hcc.2.1 hcc.2.2.2.1 hcc.2.2.2.2 hv)
    · exact zt.2.1 b (List.mem_filter.1 hb).1
  · have h1 := sortS_sorted (joinS s t)
    have h2 : VarsApart (sortS (joinS s t)) := (sortS_perm _).symm.pairwise ap (fun h e => h e.symm)
    have h3 := h1.and h2
    refine h3.imp (fun {a b} hab => ?_)
    obtain ⟨k1, k2⟩ := hab
    have : a.1.cmp b.1 ≠ 0 := fun e => k2 (Tm.cmp_zero.1 e)
    unfold LeB at k1
    omega

/-- what a variable stands for, where each variable is bound once -/
theorem getS_of {l : List Bd} (ha : VarsApart l) {b : Bd} (hb : b ∈ l) : getS l b.1 = b.2 := by
  rcases getS_cases' b.1 l with ⟨c, hc, e1, e2⟩ | ⟨-, h⟩
  · rw [e2]
    have : c = b := by
      clear e2
      induction l with
      | nil => simp at hb
      | cons y r ih =>
        obtain ⟨h1, h2⟩ := List.pairwise_cons.1 ha
        rcases List.mem_cons.1 hb with hb' | hb'
        · subst hb'
          rcases List.mem_cons.1 hc with hc' | hc'
          · exact hc'
          · exact absurd e1.symm (h1 c hc')
        · rcases List.mem_cons.1 hc with hc' | hc'
          · subst hc'; exact absurd e1 (h1 b hb')
          · exact ih h2 hb' hc'
    rw [this]
  · exact absurd rfl (h b hb)
theorem hasS_iff {s : List Bd} {x : Tm} : hasS s x = true ↔ ∃ b ∈ s, b.1 = x := by
  constructor
  · intro h
    rcases getS_cases' x s with ⟨b, hb, e, -⟩ | ⟨-, hn⟩
    · exact ⟨b, hb, e⟩
    · rw [(getS_not hn).2] at h; cases h
  · rintro ⟨b, hb, rfl⟩; exact hasS_mem hb
/-- the composition of what variables stand for -/
theorem getS_join {s t : List Bd} (hs : VarsApart s) (ht : VarsApart t) (x : Tm) (hk : x.kind = 1) : getS (sortS (joinS s t)) x = (getS s x).put t := by
  have ap : VarsApart (sortS (joinS s t)) := (sortS_perm _).symm.pairwise (joinS_apart hs ht) (fun h e => h e.symm)
  have mem : ∀ b, b ∈ sortS (joinS s t) ↔ b ∈ joinS s t := fun b => (sortS_perm _).mem_iff
  rcases getS_cases' x s with ⟨b, hb, e1, e2⟩ | ⟨e2, hn⟩
  · rw [e2]
    by_cases he : x = b.2.put t
    · rw [← he]
      refine (getS_not fun c hc hcx => ?_).1
      have hc := (mem c).1 hc
      unfold joinS at hc
      rcases List.mem_append.1 hc with hc | hc
      · unfold mapS at hc
        obtain ⟨hc, hne⟩ := List.mem_filter.1 hc
        obtain ⟨d, hd, rfl⟩ := List.mem_map.1 hc
        have hdx : d.1 = x := hcx
        have : d.2 = b.2 := by rw [← getS_of hs hd, hdx, e2]
        rw [this, hdx] at hne
        simp [← he] at hne
      · have := (List.mem_filter.1 hc).2
        rw [hcx, hasS_iff.2 ⟨b, hb, e1⟩] at this
        simp at this
    · have hm : (x, b.2.put t) ∈ sortS (joinS s t) := by
        rw [mem]
        unfold joinS mapS
        refine List.mem_append_left _ (List.mem_filter.2 ⟨List.mem_map.2 ⟨b, hb, by rw [e1]⟩, by simpa using he⟩)
      exact getS_of ap hm
  · rw [e2, Tm.put_var t x hk]
    rcases getS_cases' x t with ⟨c, hc, e3, e4⟩ | ⟨e4, hm⟩
    · rw [e4]
      have hmem : c ∈ sortS (joinS s t) := by
        rw [mem]
        unfold joinS restS
        refine List.mem_append_right _ (List.mem_filter.2 ⟨hc, ?_⟩)
        rw [e3]
        have : hasS s x = false := (getS_not hn).2
        rw [this]; rfl
      have := getS_of ap hmem
      rwa [e3] at this
    · rw [e4]
      refine (getS_not fun c hc hcx => ?_).1
      have hc := (mem c).1 hc
      unfold joinS at hc
      rcases List.mem_append.1 hc with hc | hc
      · unfold mapS at hc
        obtain ⟨hc, -⟩ := List.mem_filter.1 hc
        obtain ⟨d, hd, rfl⟩ := List.mem_map.1 hc
        exact hn d hd hcx
      · exact hm c (List.mem_filter.1 hc).1 hcx
mutual
theorem put_join {s t : List Bd} (hs : VarsApart s) (ht : VarsApart t) : ∀ u : Tm, (∀ b ∈ s, b.1.kind = 1) → u.put (sortS (joinS s t)) = (u.put s).put t
  | .mk k n so l, h => by
    by_cases hk : k = 1
    · rw [Tm.put_var _ _ (show (Tm.mk k n so l).kind = 1 from hk), Tm.put_var s _ (show (Tm.mk k n so l).kind = 1 from hk)]
      exact getS_join hs ht _ hk
    · rw [Tm.put_app _ _ _ _ _ hk, Tm.put_app s _ _ _ _ hk, Tm.put_app t _ _ _ _ hk, puts_join hs ht l h]
theorem puts_join {s t : List Bd} (hs : VarsApart s) (ht : VarsApart t) : ∀ l : List Tm, (∀ b ∈ s, b.1.kind = 1) → Tm.puts (sortS (joinS s t)) l = Tm.puts t (Tm.puts s l)
  | [], _ => rfl
  | u :: r, h => by rw [Tm.puts, Tm.puts, Tm.puts, put_join hs ht u h, puts_join hs ht r h]
end
theorem valid_vars {s : List Bd} (hs : validS s = 0) : ∀ b ∈ s, b.1.kind = 1 := fun b hb => (bindE_zero ((validS_zero hs).2.1 b hb)).2.1
theorem valid_apart {s : List Bd} (hs : validS s = 0) : VarsApart s := vars_apart (validS_zero hs).2.2
theorem compose_put {s t : List Bd} (h : (composeE s t).2 = 0) (u : Tm) : u.put (composeE s t).1 = (u.put s).put t := by
  obtain ⟨hs, ht, -, -, e⟩ := compose_ok h
  rw [e]
  exact put_join (valid_apart hs) (valid_apart ht) u (valid_vars hs)
/-- two valid substitutions of the same effect are one -/
theorem subst_ext {a b : List Bd} (ha : validS a = 0) (hb : validS b = 0) (h : ∀ x : Tm, x.kind = 1 → getS a x = getS b x) : a = b := by
  have key : ∀ {a b : List Bd}, validS a = 0 → validS b = 0 → (∀ x : Tm, x.kind = 1 → getS a x = getS b x) → ∀ c ∈ a, c ∈ b := fun {a b} ha hb h c hc => by
    have hcc := bindE_zero ((validS_zero ha).2.1 c hc)
    have e := h c.1 hcc.2.1
    rw [getS_of (valid_apart ha) hc] at e
    rcases getS_cases' c.1 b with ⟨d, hd, e1, e2⟩ | ⟨e2, -⟩
    · have : d = c := Prod.ext e1 (by rw [← e2, ← e])
      rw [← this]; exact hd
    · exact absurd (e.trans e2).symm hcc.2.2.1
  have nd : ∀ {a : List Bd}, validS a = 0 → a.Nodup := fun ha => (valid_apart ha).imp (fun h e => h (by rw [e]))
  have hp : a.Perm b := (List.perm_ext_iff_of_nodup (nd ha) (nd hb)).2 fun c => ⟨key ha hb h c, key hb ha (fun x hx => (h x hx).symm) c⟩
  have sa : a.Pairwise LeB := (validS_zero ha).2.2.imp (fun h => by unfold LeB; omega)
  have sb : b.Pairwise LeB := (validS_zero hb).2.2.imp (fun h => by unfold LeB; omega)
  exact sorted_unique a b hp sa sb (valid_apart ha)
/-- composition is associative -/
theorem compose_assoc {s t : List Bd} (h1 : (composeE s t).2 = 0) (h2 : (composeE t s).2 = 0) (h3 : (composeE (composeE s t).1 s).2 = 0) (h4 : (composeE s (composeE t s).1).2 = 0) :
    (composeE (composeE s t).1 s).1 = (composeE s (composeE t s).1).1 := by
  refine subst_ext (compose_valid h3) (compose_valid h4) fun x hx => ?_
  rw [← Tm.put_var _ x hx, ← Tm.put_var _ x hx, compose_put h3, compose_put h4, compose_put h1, compose_put h2]
end Go.Proofs.YtkbkgiihgghbeaaDoor
