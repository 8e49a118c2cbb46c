/- Umat1 (joined by shake.py). -/
import Derived.Test.YtmajbopjaejliaaGreatDoorR12
import Derived.Test.YtmajbopjaejliaaGreatDoorR20
namespace Go.Proofs.YtmajbopjaejliaaGreatDoor
mutual
theorem put_congr_on {a b : List Bd} : ∀ t : Tm, (∀ x ∈ t.all, x.kind = 1 → getS a x = getS b x) → t.check = 0 → t.put a = t.put b
  | .mk k n s l, h, hc => by
    by_cases hk : k = 1
    · rw [Tm.put_var a (.mk k n s l) hk, Tm.put_var b (.mk k n s l) hk]
      exact h _ (by rw [Tm.all]; exact List.mem_cons_self ..) hk
    · rw [Tm.put_app a k n s l hk, Tm.put_app b k n s l hk]
      rcases checkU hc with ⟨-, rfl⟩ | ⟨-, -, hcl⟩
      · rfl
      · rw [puts_congr_on l (fun x hx => h x (by rw [Tm.all]; exact List.mem_cons_of_mem _ hx)) hcl]
theorem puts_congr_on {a b : List Bd} : ∀ l : List Tm, (∀ x ∈ Tm.alls l, x.kind = 1 → getS a x = getS b x) → Tm.checks l = 0 → Tm.puts a l = Tm.puts b l
  | [], _, _ => by rw [Tm.puts, Tm.puts]
  | t :: r, h, hc => by
    obtain ⟨h1, h2⟩ := checksU_cons hc
    rw [Tm.puts, Tm.puts, put_congr_on t (fun x hx => h x (by rw [Tm.alls]; exact List.mem_append_left _ hx)) h1, puts_congr_on r (fun x hx => h x (by rw [Tm.alls]; exact List.mem_append_right _ hx)) h2]
end
theorem varsOf_iff {p x : Tm} : x ∈ varsOf p ↔ x ∈ p.all ∧ x.kind = 1 := by
  unfold varsOf
  rw [Tm.mem_set, List.mem_filter]
  simp
/-- what the reference's Match answers -/
def matchR (p t : Tm) : List Bd × Int := if valid2 p t ≠ 0 then ([], valid2 p t) else if (p.col t []).2 = true then (if consU (p.col t []).1 then (bindM (p.col t []).1 (varsOf p), 0) else ([], 11)) else ([], 11)
theorem bindM_congr {m m' : List Bd} : ∀ {L : List Tm}, (∀ x ∈ L, getS m x = getS m' x) → bindM m L = bindM m' L := by
  intro L h
  unfold bindM
  have h1 : L.filter (fun x => decide (getS m x ≠ x)) = L.filter (fun x => decide (getS m' x ≠ x)) := List.filter_congr fun x hx => by rw [h x hx]
  rw [h1]
  exact List.map_congr_left fun x hx => by rw [h x (List.mem_filter.1 hx).1]
theorem matchR_eq (p t : Tm) : matchR p t = matchE p t := by
  unfold matchR matchE
  by_cases h0 : valid2 p t = 0
  · rw [if_neg (show ¬ (valid2 p t ≠ 0) by simpa using h0), if_neg (show ¬ (valid2 p t ≠ 0) by simpa using h0)]
    obtain ⟨v1, v2⟩ := valid2_ok h0
    by_cases hm : (p.mat t []).2 = true
    · obtain ⟨h1, h2⟩ := (ans_iff v1 v2).2 hm
      rw [if_pos h1, if_pos h2, if_pos hm]
      have e1 := col_sound p t [] _ v1 v2 (Ext.refl _) h2 h1
      have e2 := (mat_sound p t [] v1 v2 ⟨by simp, List.Pairwise.nil⟩ hm).2.2
      have hb : bindM (p.col t []).1 (varsOf p) = bindM (p.mat t []).1 (varsOf p) := bindM_congr fun x hx => by
        obtain ⟨g1, g2⟩ := varsOf_iff.1 hx
        have h := put_uniq p (e1.trans e2.symm) x g1 g2 (check_valid v1)
        rw [Tm.put_var _ _ g2, Tm.put_var _ _ g2] at h
        exact h
      rw [hb]
    · rw [if_neg hm]
      by_cases h1 : (p.col t []).2 = true
      · rw [if_pos h1, if_neg (fun h2 => hm ((ans_iff v1 v2).1 ⟨h1, h2⟩))]
      · rw [if_neg h1]
  · rw [if_pos h0, if_pos h0]
theorem getS_bindM (m : List Bd) (x : Tm) : ∀ L : List Tm, x ∈ L → getS (bindM m L) x = getS m x
  | [], h => nomatch h
  | y :: L, h => by
    have e : bindM m (y :: L) = (if getS m y = y then [] else [(y, getS m y)]) ++ bindM m L := by
      unfold bindM
      by_cases g : getS m y = y
      · simp [g]
      · simp [g]
    rw [e]
    by_cases hxy : y = x
    · subst hxy
      by_cases g : getS m y = y
      · rw [if_pos g, List.nil_append]
        rcases getS_casesU y (bindM m L) with ⟨b, hb, e1, e2⟩ | ⟨e1, -⟩
        · rw [e2]
          unfold bindM at hb
          obtain ⟨z, -, rfl⟩ := List.mem_map.1 hb
          rw [← e1]
        · rw [e1, g]
      · rw [if_neg g, List.cons_append, getS, if_pos rfl]
    · have hx : x ∈ L := by
        rcases List.mem_cons.1 h with h | h
        · exact absurd h.symm hxy
        · exact h
      have ih := getS_bindM m x L hx
      by_cases g : getS m y = y
      · rw [if_pos g, List.nil_append]; exact ih
      · rw [if_neg g, List.cons_append, List.nil_append, getS, if_neg hxy]; exact ih
/-- what is found makes the term of the pattern -/
theorem matchE_makes {p t : Tm} (h0 : (matchE p t).2 = 0) : p.rap (matchE p t).1 = t := by
  unfold matchE at h0 ⊢
  by_cases hv : valid2 p t = 0
  · rw [if_neg (show ¬ (valid2 p t ≠ 0) by simpa using hv)] at h0 ⊢
    obtain ⟨v1, v2⟩ := valid2_ok hv
    by_cases hm : (p.mat t []).2 = true
    · rw [if_pos hm]
      have hk : ∀ b ∈ bindM (p.mat t []).1 (varsOf p), b.1.kind = 1 := fun b hb => by
        unfold bindM at hb
        obtain ⟨z, hz, rfl⟩ := List.mem_map.1 hb
        exact (varsOf_iff.1 (List.mem_filter.1 hz).1).2
      show p.rap (bindM (p.mat t []).1 (varsOf p)) = t
      rw [rap_put hk p (check_valid v1)]
      have e2 := (mat_sound p t [] v1 v2 ⟨by simp, List.Pairwise.nil⟩ hm).2.2
      rw [← e2]
      rw [e2]
      exact (put_congr_on p (fun x hx hk => getS_bindM _ x _ (varsOf_iff.2 ⟨hx, hk⟩)) (check_valid v1)).trans e2
    · rw [if_neg hm] at h0
      exact absurd h0 (by decide)
  · rw [if_pos hv] at h0
    exact absurd h0 hv
end Go.Proofs.YtmajbopjaejliaaGreatDoor
