/- Composition of substitutions: plain Lean. -/
import Derived.Test.YtipmibjhlpnhjaaGreatDoorSbsort
namespace Go.Proofs.YtipmibjhlpnhjaaGreatDoor

/-- the bindings of s with the terms in which t is put, those that bind a variable to itself left out -/
def mapS (t l : List Bd) : List Bd := (l.map (fun b => (b.1, b.2.put t))).filter (fun b => decide (b.1 ≠ b.2))
def restS (s t : List Bd) : List Bd := t.filter (fun b => !(hasS s b.1))
def joinS (s t : List Bd) : List Bd := mapS t s ++ restS s t
/-- the first error of an application -/
def errS (t : List Bd) : List Bd → Int
  | [] => 0
  | b :: r => if (applyE t b.2).2 ≠ 0 then (applyE t b.2).2 else errS t r
/-- a binding in front of the first that is greater -/
def insB (x : Bd) : List Bd → List Bd
  | [] => [x]
  | b :: r => if x.1.cmp b.1 < 0 then x :: b :: r else b :: insB x r
def sortS (l : List Bd) : List Bd := l.foldl (fun a b => insB b a) []
def composeE (s t : List Bd) : List Bd × Int :=
  if validS s ≠ 0 then ([], validS s) else if validS t ≠ 0 then ([], validS t) else if errS t s ≠ 0 then ([], errS t s)
  else if 200 < (joinS s t).length then ([], 3) else (sortS (joinS s t), 0)

theorem insB_perm (x : Bd) : ∀ l, (insB x l).Perm (x :: l)
  | [] => List.Perm.refl _
  | b :: r => by
    rw [insB]
    split
    · exact List.Perm.refl _
    · exact (List.Perm.cons b (insB_perm x r)).trans (List.Perm.swap x b r)
theorem sortS_perm' : ∀ (l a : List Bd), (l.foldl (fun a b => insB b a) a).Perm (l ++ a)
  | [], a => List.Perm.refl _
  | b :: r, a => by
    rw [List.foldl_cons]
    refine (sortS_perm' r _).trans ?_
    refine ((insB_perm b a).append_left r).trans ?_
    exact List.perm_middle
theorem sortS_perm (l : List Bd) : (sortS l).Perm l := by have := sortS_perm' l []; simpa [sortS] using this
def LeB (a b : Bd) : Prop := a.1.cmp b.1 ≤ 0
theorem insB_sorted (x : Bd) : ∀ l, l.Pairwise LeB → (insB x l).Pairwise LeB
  | [], _ => by rw [insB]; exact List.pairwise_singleton ..
  | b :: r, h => by
    obtain ⟨h1, h2⟩ := List.pairwise_cons.1 h
    rw [insB]
    split
    · rename_i hx
      refine List.pairwise_cons.2 ⟨fun c hc => ?_, h⟩
      rcases List.mem_cons.1 hc with rfl | hc
      · exact Int.le_of_lt hx
      · exact Int.le_of_lt ((Tm.cmp_tri x.1 b.1 c.1).2.1 hx (h1 c hc))
    · rename_i hx
      refine List.pairwise_cons.2 ⟨fun c hc => ?_, insB_sorted x r h2⟩
      rcases List.mem_cons.1 ((insB_perm x r).mem_iff.1 hc) with rfl | hc
      · have := Tm.cmp_neg c.1 b.1; unfold LeB; omega
      · exact h1 c hc
theorem sortS_sorted (l : List Bd) : (sortS l).Pairwise LeB := by
  have key : ∀ (l a : List Bd), a.Pairwise LeB → (l.foldl (fun a b => insB b a) a).Pairwise LeB := by
    intro l
    induction l with
    | nil => intro a h; exact h
    | cons b r ih => intro a h; exact ih _ (insB_sorted b a h)
  exact key l [] List.Pairwise.nil
def VarsApart (l : List Bd) : Prop := l.Pairwise (fun a b => a.1 ≠ b.1)
theorem sorted_unique : ∀ (a b : List Bd), a.Perm b → a.Pairwise LeB → b.Pairwise LeB → VarsApart a → a = b
  | [], b, h, _, _, _ => h.nil_eq
  | x :: a, [], h, _, _, _ => absurd h.length_eq (by simp)
  | x :: a, y :: b, h, ha, hb, hv => by
    obtain ⟨a1, a2⟩ := List.pairwise_cons.1 ha
    obtain ⟨b1, b2⟩ := List.pairwise_cons.1 hb
    obtain ⟨v1, v2⟩ := List.pairwise_cons.1 hv
    have e : x = y := by
      have hx : x ∈ y :: b := h.mem_iff.1 (List.mem_cons_self ..)
      have hy : y ∈ x :: a := h.mem_iff.2 (List.mem_cons_self ..)
      rcases List.mem_cons.1 hx with e | hx
      · exact e
      rcases List.mem_cons.1 hy with e | hy
      · exact e.symm
      have k1 := a1 y hy
      have k2 := b1 x hx
      unfold LeB at k1 k2
      have := Tm.cmp_neg x.1 y.1
      exact absurd (Tm.cmp_zero.1 (show x.1.cmp y.1 = 0 by omega)) (v1 y hy)
    subst e
    rw [sorted_unique a b h.cons_inv a2 b2 v2]
theorem sorted_is {a l : List Bd} (h : a.Perm l) (hs : a.Pairwise LeB) (hv : VarsApart l) : a = sortS l :=
  sorted_unique a (sortS l) (h.trans (sortS_perm l).symm) hs (sortS_sorted l) (h.symm.pairwise hv (fun h e => h e.symm))
theorem mapS_length (t l : List Bd) : (mapS t l).length ≤ l.length := by unfold mapS; exact Nat.le_trans (List.length_filter_le _ _) (by simp)
theorem restS_length (s t : List Bd) : (restS s t).length ≤ t.length := List.length_filter_le _ _
theorem mapS_take_succ (t l : List Bd) (k : Nat) (h : k < l.length) : mapS t (l.take (k + 1)) = mapS t (l.take k) ++ (if l[k].1 = l[k].2.put t then [] else [(l[k].1, l[k].2.put t)]) := by
  unfold mapS
  rw [List.take_succ_eq_append_getElem h, List.map_append, List.filter_append]
  congr 1
  by_cases e : l[k].1 = l[k].2.put t <;> simp [e]
theorem restS_take_succ (s t : List Bd) (k : Nat) (h : k < t.length) : restS s (t.take (k + 1)) = restS s (t.take k) ++ (if hasS s t[k].1 = true then [] else [t[k]]) := by
  unfold restS
  rw [List.take_succ_eq_append_getElem h, List.filter_append]
  congr 1
  by_cases e : hasS s t[k].1 = true <;> simp [e]
theorem errS_drop (t l : List Bd) (k : Nat) (h : k < l.length) : errS t (l.drop k) = if (applyE t l[k].2).2 ≠ 0 then (applyE t l[k].2).2 else errS t (l.drop (k + 1)) := by
  rw [List.drop_eq_getElem_cons h, errS]
theorem hasS_mem {s : List Bd} {b : Bd} (h : b ∈ s) : hasS s b.1 = true := by
  induction s with
  | nil => cases h
  | cons c r ih =>
    rw [hasS]
    split
    · rfl
    · rename_i hne
      rcases List.mem_cons.1 h with rfl | h
      · exact absurd rfl hne
      · exact ih h
theorem vars_apart {l : List Bd} (h : l.Pairwise (fun a b => a.1.cmp b.1 < 0)) : VarsApart l :=
  h.imp (fun h e => by rw [e, Tm.cmp_self] at h; omega)
theorem joinS_apart {s t : List Bd} (hs : VarsApart s) (ht : VarsApart t) : VarsApart (joinS s t) := by
  unfold joinS VarsApart
  refine List.pairwise_append.2 ⟨?_, ht.filter _, fun a ha b hb e => ?_⟩
  · unfold mapS
    refine List.Pairwise.filter _ ?_
    rw [List.pairwise_map]
    exact hs
  · unfold mapS at ha
    unfold restS at hb
    obtain ⟨h1, -⟩ := List.mem_filter.1 ha
    obtain ⟨c, hc, rfl⟩ := List.mem_map.1 h1
    have h2 := (List.mem_filter.1 hb).2
    simp only [← e, hasS_mem hc] at h2
    simp at h2
end Go.Proofs.YtipmibjhlpnhjaaGreatDoor
