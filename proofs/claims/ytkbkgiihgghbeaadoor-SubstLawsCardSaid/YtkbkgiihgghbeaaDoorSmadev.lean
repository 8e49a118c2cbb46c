/- What Made and Grown give is valid: plain. -/
import Derived.Test.YtkbkgiihgghbeaaDoorSmade
namespace Go.Proofs.YtkbkgiihgghbeaaDoor

theorem leafN_valid (c : Nat) : (leafN c).check = 0 ∧ (leafN c).depth = 1 := by
  unfold leafN
  split
  · exact ⟨by decide, by decide⟩
  split
  · exact ⟨by decide, by decide⟩
  split
  · exact ⟨by decide, by decide⟩
  split
  · exact ⟨by decide, by decide⟩
  split
  · exact ⟨by decide, by decide⟩
  · exact ⟨by decide, by decide⟩
theorem app1_check {n : ByteArray} {t : Tm} (hn : nameL n.data.toList = true) (h : t.check = 0) : (Tm.mk 3 n 0 [t]).check = 0 := by
  rw [Tm.check, if_neg (by decide), if_pos rfl, if_neg (by simp), if_neg (by simp [hn]), if_neg (by simp), Tm.checks, if_neg (by simpa using h)]; rfl
theorem app2_check {n : ByteArray} {t u : Tm} (hn : nameL n.data.toList = true) (h : t.check = 0) (h' : u.check = 0) : (Tm.mk 3 n 0 [t, u]).check = 0 := by
  rw [Tm.check, if_neg (by decide), if_pos rfl, if_neg (by simp), if_neg (by simp [hn]), if_neg (by simp), Tm.checks, if_neg (by simpa using h), Tm.checks, if_neg (by simpa using h')]; rfl
theorem growE_check (bs : List Nat) : ∀ f a, (growE bs f a).1.check = 0 ∧ (growE bs f a).1.depth ≤ f + 1
  | 0, a => by
    rw [growE]
    have := leafN_valid (bs.getD a 3 % 6)
    exact ⟨this.1, by rw [this.2]; omega⟩
  | f + 1, a => by
    have h1 := growE_check bs f (a + 1)
    have h2 := growE_check bs f (growE bs f (a + 1)).2
    rw [growE]
    split
    · have := leafN_valid (bs.getD a 3 % 8)
      exact ⟨this.1, by rw [this.2]; omega⟩
    · split
      · refine ⟨app1_check (by decide) h1.1, ?_⟩
        simp only [Tm.depth, Tm.depths]; omega
      · refine ⟨app2_check (by decide) h1.1 h2.1, ?_⟩
        simp only [Tm.depth, Tm.depths]; omega
theorem growN_valid (bs : List Nat) : (growN bs).valid = 0 := by
  have hs := growN_size bs
  have hc : (growN bs).check = 0 ∧ (growN bs).depth ≤ 5 := by
    unfold growN
    split
    · exact ⟨by decide, by decide⟩
    · exact growE_check bs 4 0
  unfold Tm.valid
  rw [if_neg (by simpa using hc.1), if_neg (by omega)]

theorem valid_ins {s : List Bd} {x t : Tm} (hs : validS s = 0) (hl : s.length < 200) (hv : ∀ b ∈ s, b.1 ≠ x) (hx : x.valid = 0) (hk : x.kind = 1) (ht : t.valid = 0) (hf : fits x t = true) : validS (bindR s x t) = 0 := by
  unfold bindR
  split
  · exact hs
  · rename_i hne
    have zs := validS_zero hs
    have hp := insB_perm (x, t) s
    refine validS_of (by rw [hp.length_eq]; simp; omega) (fun b hb => ?_) ?_
    · rcases List.mem_cons.1 (hp.mem_iff.1 hb) with rfl | hb
      · exact bindE_of hx hk hne ht hf
      · exact zs.2.1 b hb
    · have h1 := insB_sorted (x, t) s (zs.2.2.imp (fun h => by unfold LeB; omega))
      have h2 : VarsApart (insB (x, t) s) := hp.symm.pairwise (List.pairwise_cons.2 ⟨fun b hb e => hv b hb e.symm, valid_apart hs⟩) (fun h e => h e.symm)
      refine (h1.and h2).imp (fun {a b} hab => ?_)
      obtain ⟨k1, k2⟩ := hab
      have : a.1.cmp b.1 ≠ 0 := fun e => k2 (Tm.cmp_zero.1 e)
      unfold LeB at k1
      omega
theorem bindR_vars {s : List Bd} {x t : Tm} {b : Bd} (h : b ∈ bindR s x t) : b.1 = x ∨ b ∈ s := by
  unfold bindR at h
  split at h
  · exact .inr h
  · rcases List.mem_cons.1 ((insB_perm _ _).mem_iff.1 h) with rfl | h
    · exact .inl rfl
    · exact .inr h
theorem stg1_valid (lX : List Nat) : validS (stg1 lX) = 0 ∧ ∀ b ∈ stg1 lX, b.1 = .mk 1 ⟨#[120]⟩ 0 [] := by
  unfold stg1
  split
  · exact ⟨by decide, fun b hb => by simp at hb⟩
  · refine ⟨valid_ins (by decide) (by simp) (fun b hb => by simp at hb) (by decide) rfl (growN_valid _) ((fits_iff (by decide) (growN_valid _) rfl).2 (.inl rfl)), fun b hb => ?_⟩
    rcases bindR_vars hb with h | h
    · exact h
    · simp at h
theorem stg2_valid (lX lY : List Nat) : validS (stg2 lX lY) = 0 ∧ ∀ b ∈ stg2 lX lY, b.1 = .mk 1 ⟨#[120]⟩ 0 [] ∨ b.1 = .mk 1 ⟨#[121]⟩ 0 [] := by
  obtain ⟨h1, h2⟩ := stg1_valid lX
  have hl := (stg1_size lX).2
  unfold stg2
  split
  · exact ⟨h1, fun b hb => .inl (h2 b hb)⟩
  · refine ⟨valid_ins h1 (by omega) (fun b hb => by rw [h2 b hb]; decide) (by decide) rfl (growN_valid _) ((fits_iff (by decide) (growN_valid _) rfl).2 (.inl rfl)), fun b hb => ?_⟩
    rcases bindR_vars hb with h | h
    · exact .inr h
    · exact .inl (h2 b h)
theorem stg3_valid (lX lY lZ : List Nat) : validS (stg3 lX lY lZ) = 0 ∧ ∀ b ∈ stg3 lX lY lZ, b.1 = .mk 1 ⟨#[120]⟩ 0 [] ∨ b.1 = .mk 1 ⟨#[121]⟩ 0 [] ∨ b.1 = .mk 1 ⟨#[122]⟩ 0 [] := by
  obtain ⟨h1, h2⟩ := stg2_valid lX lY
  have hl := (stg2_size lX lY).2
  unfold stg3
  split
  · exact ⟨h1, fun b hb => (h2 b hb).imp id .inl⟩
  · refine ⟨valid_ins h1 (by omega) (fun b hb => by rcases h2 b hb with e | e <;> rw [e] <;> decide) (by decide) rfl (growN_valid _) ((fits_iff (by decide) (growN_valid _) rfl).2 (.inl rfl)), fun b hb => ?_⟩
    rcases bindR_vars hb with h | h
    · exact .inr (.inr h)
    · exact (h2 b h).imp id .inl
theorem madeE_valid (lX lY lZ : List Nat) (n : Nat) : validS (madeE lX lY lZ n) = 0 := by
  obtain ⟨h1, h2⟩ := stg3_valid lX lY lZ
  have hl := (stg3_size lX lY lZ).2
  have hs : stage lX lY lZ 3 = stg3 lX lY lZ := rfl
  unfold madeE
  rw [hs]
  split
  · exact valid_ins h1 (by omega) (fun b hb => by rcases h2 b hb with e | e | e <;> rw [e] <;> decide) (by decide) rfl (by decide) (by decide)
  split
  · exact valid_ins h1 (by omega) (fun b hb => by rcases h2 b hb with e | e | e <;> rw [e] <;> decide) (by decide) rfl (by decide) (by decide)
  · exact h1
end Go.Proofs.YtkbkgiihgghbeaaDoor
