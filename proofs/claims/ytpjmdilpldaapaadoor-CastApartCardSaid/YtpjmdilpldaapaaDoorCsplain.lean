/- Sessions of casts, plain: lists that do not descend, grown at the end and at the head. -/
import Derived.Test.YtpjmdilpldaapaaDoorCplain
namespace Go.Proofs.YtpjmdilpldaapaaDoor

/-- all lists of n different agents -/
def tups (ags : List ByteArray) : Nat → List (List ByteArray)
  | 0 => [[]]
  | n + 1 => (tups ags n).flatMap fun l => (ags.filter fun a => !hasS l a).map fun a => l ++ [a]
theorem mem_tups (ags : List ByteArray) : ∀ (n : Nat) (l : List ByteArray), l ∈ tups ags n → l.length = n ∧ l.Nodup ∧ ∀ a ∈ l, a ∈ ags
  | 0, l, h => by
    have : l = [] := by simpa [tups] using h
    subst this
    exact ⟨rfl, List.Pairwise.nil, by simp⟩
  | n + 1, l, h => by
    rw [tups, List.mem_flatMap] at h
    obtain ⟨x, hx, h⟩ := h
    obtain ⟨a, ha, rfl⟩ := List.mem_map.1 h
    obtain ⟨h1, h2, h3⟩ := mem_tups ags n x hx
    rw [List.mem_filter] at ha
    have hna : a ∉ x := by
      rw [← hasS_false]
      have := ha.2
      cases e : hasS x a with
      | false => rfl
      | true => rw [e] at this; cases this
    refine ⟨by simp [h1], List.nodup_append.2 ⟨h2, by simp, fun y hy z hz e => ?_⟩, fun y hy => ?_⟩
    · rw [List.mem_singleton] at hz; subst hz; subst e; exact hna hy
    · rcases List.mem_append.1 hy with hy | hy
      · exact h3 y hy
      · rw [List.mem_singleton] at hy; subst hy; exact ha.1
theorem tups_length (ags : List ByteArray) : ∀ n, (tups ags n).length ≤ ags.length ^ n
  | 0 => by simp [tups]
  | n + 1 => by
    rw [tups, Nat.pow_succ]
    have key : ∀ L : List (List ByteArray), (L.flatMap fun l => (ags.filter fun a => !hasS l a).map fun a => l ++ [a]).length ≤ L.length * ags.length := by
      intro L
      induction L with
      | nil => simp
      | cons x r ih =>
        rw [List.flatMap_cons, List.length_append, List.length_cons, Nat.add_mul, List.length_map]
        have := List.length_filter_le (fun a => !hasS x a) ags
        omega
    exact Nat.le_trans (key _) (Nat.mul_le_mul_right _ (tups_length ags n))

abbrev Ss := Nat × List ByteArray
/-- the sessions of a role -/
def roleS (bad : List ByteArray) (L : List (List ByteArray)) (r : Nat) : List Ss := (L.filter fun l => !hasS bad (l.getD r ByteArray.empty)).map fun l => (r, l)
/-- all sessions -/
def allS (ags bad : List ByteArray) (roles k : Nat) : List Ss := (List.range k).flatMap (roleS bad (tups ags roles))
theorem allS_succ (ags bad : List ByteArray) (roles k : Nat) : allS ags bad roles (k + 1) = allS ags bad roles k ++ roleS bad (tups ags roles) k := by
  unfold allS
  rw [List.range_succ, List.flatMap_append]
  simp
theorem roleS_length (bad : List ByteArray) (L : List (List ByteArray)) (r : Nat) : (roleS bad L r).length ≤ L.length := by
  unfold roleS
  rw [List.length_map]
  exact List.length_filter_le _ _
theorem allS_length (ags bad : List ByteArray) (roles : Nat) : ∀ k, (allS ags bad roles k).length ≤ k * (tups ags roles).length
  | 0 => by simp [allS]
  | k + 1 => by
    rw [allS_succ, List.length_append, Nat.add_mul]
    have h1 := roleS_length bad (tups ags roles) k
    have h2 := allS_length ags bad roles k
    omega

/-- lists of n indexes that do not descend, from an index on -/
def idxR (m : Nat) : Nat → Nat → List (List Nat)
  | 0, _ => [[]]
  | n + 1, f => (List.range' f (m - f)).flatMap fun i => (idxR m n i).map (i :: ·)
/-- a list, longer by one at its end -/
def longer (m d : Nat) (l : List Nat) : List (List Nat) := (List.range' (l.getLastD d) (m - l.getLastD d)).map fun i => l ++ [i]
theorem flatMap_map {α β γ : Type} (f : α → β) (g : β → List γ) (l : List α) : (l.map f).flatMap g = l.flatMap fun x => g (f x) := by
  induction l with
  | nil => rfl
  | cons x r ih => rw [List.map_cons, List.flatMap_cons, List.flatMap_cons, ih]
theorem map_flatMap {α β γ : Type} (f : β → γ) (g : α → List β) (l : List α) : (l.flatMap g).map f = l.flatMap fun x => (g x).map f := by
  induction l with
  | nil => rfl
  | cons x r ih => rw [List.flatMap_cons, List.flatMap_cons, List.map_append, ih]
theorem flatMap_flatMap {α β γ : Type} (f : α → List β) (g : β → List γ) (l : List α) : (l.flatMap f).flatMap g = l.flatMap fun x => (f x).flatMap g := by
  induction l with
  | nil => rfl
  | cons x r ih => rw [List.flatMap_cons, List.flatMap_cons, List.flatMap_append, ih]
theorem flatMap_congr' {α β : Type} {f g : α → List β} (l : List α) (h : ∀ x ∈ l, f x = g x) : l.flatMap f = l.flatMap g := by
  induction l with
  | nil => rfl
  | cons x r ih => rw [List.flatMap_cons, List.flatMap_cons, h x (by simp), ih fun y hy => h y (by simp [hy])]
theorem longer_cons (m d i : Nat) (l : List Nat) : longer m d (i :: l) = (longer m i l).map (i :: ·) := by
  have e : (i :: l).getLastD d = l.getLastD i := by cases l <;> rfl
  unfold longer
  rw [e, List.map_map]
  rfl
theorem idxR_grow (m : Nat) : ∀ (n f : Nat), idxR m (n + 1) f = (idxR m n f).flatMap (longer m f)
  | 0, f => by
    have : longer m f [] = (List.range' f (m - f)).map fun i => [i] := rfl
    rw [idxR, idxR, List.flatMap_cons, this]
    simp [idxR, List.map_eq_flatMap]
  | n + 1, f => by
    conv => lhs; rw [idxR]
    conv => rhs; rw [idxR]
    rw [flatMap_flatMap]
    refine flatMap_congr' _ fun i _ => ?_
    rw [flatMap_map, idxR_grow m n i, map_flatMap]
    refine flatMap_congr' _ fun l _ => ?_
    rw [longer_cons]
theorem mem_idxR (m : Nat) : ∀ (n f : Nat) (l : List Nat), l ∈ idxR m n f → l.length = n ∧ ∀ i ∈ l, i < m
  | 0, _, l, h => by
    have : l = [] := by simpa [idxR] using h
    subst this
    exact ⟨rfl, by simp⟩
  | n + 1, f, l, h => by
    rw [idxR, List.mem_flatMap] at h
    obtain ⟨i, hi, h⟩ := h
    obtain ⟨x, hx, rfl⟩ := List.mem_map.1 h
    obtain ⟨h1, h2⟩ := mem_idxR m n i x hx
    have him := List.mem_range'.1 hi
    refine ⟨by simp [h1], fun j hj => ?_⟩
    rcases List.mem_cons.1 hj with rfl | hj
    · obtain ⟨q, hq, rfl⟩ := him; omega
    · exact h2 j hj
/-- how many they are -/
def cnt : Nat → Nat → Nat
  | 0, _ => 1
  | n + 1, m => ((List.range m).map fun i => cnt n (i + 1)).sum
theorem cnt_zero (m : Nat) : cnt 0 m = 1 := rfl
theorem cnt_none (n : Nat) : cnt (n + 1) 0 = 0 := by rw [cnt]; rfl
theorem cnt_succ (n m : Nat) : cnt (n + 1) (m + 1) = cnt (n + 1) m + cnt n (m + 1) := by
  rw [cnt, cnt, List.range_succ, List.map_append, List.sum_append]
  simp
theorem length_flat {α β : Type} (f : α → List β) (l : List α) : (l.flatMap f).length = (l.map fun x => (f x).length).sum := by
  induction l with
  | nil => rfl
  | cons x r ih => rw [List.flatMap_cons, List.length_append, List.map_cons, List.sum_cons, ih]
theorem idxR_length (m : Nat) : ∀ (n f : Nat), f ≤ m → (idxR m n f).length = cnt n (m - f)
  | 0, _, _ => rfl
  | n + 1, f, h => by
    obtain ⟨d, hd⟩ : ∃ d, m - f = d := ⟨_, rfl⟩
    induction d generalizing f with
    | zero =>
      rw [idxR, hd]
      rfl
    | succ d ih =>
      have h1 := ih (f + 1) (by omega) (by omega)
      rw [idxR] at h1 ⊢
      rw [hd, List.range'_succ, List.flatMap_cons, List.length_append, List.length_map, idxR_length m n f h, hd, cnt_succ]
      rw [show m - (f + 1) = d by omega] at h1
      rw [h1]
      omega
theorem idxR_cnt (m n : Nat) : (idxR m n 0).length = cnt n m := idxR_length m n 0 (Nat.zero_le _)
theorem cnt_mono (m : Nat) (hm : 0 < m) (n : Nat) : cnt n m ≤ cnt (n + 1) m := by
  obtain ⟨k, rfl⟩ : ∃ k, m = k + 1 := ⟨m - 1, by omega⟩
  rw [cnt_succ]; omega
theorem cnt_mono_le (m : Nat) (hm : 0 < m) {k n : Nat} (h : k ≤ n) : cnt k m ≤ cnt n m := by
  obtain ⟨d, rfl⟩ : ∃ d, n = k + d := ⟨n - k, by omega⟩
  induction d with
  | zero => exact Nat.le_refl _
  | succ d ih => exact Nat.le_trans (ih (by omega)) (cnt_mono m hm (k + d))
/-- where a level is too long, the last one is -/
theorem cnt_large {m k n : Nat} (h0 : 0 < k) (h : k ≤ n) (hk : 2000 < cnt k m) : 2000 < cnt n m := by
  by_cases hm : 0 < m
  · have := cnt_mono_le m hm h; omega
  · obtain rfl : m = 0 := by omega
    obtain ⟨q, rfl⟩ : ∃ q, k = q + 1 := ⟨k - 1, by omega⟩
    rw [cnt_none] at hk
    omega
theorem cnt_up (n : Nat) : ∀ m, cnt n m ≤ cnt n (m + 1) := by
  intro m
  cases n with
  | zero => exact Nat.le_refl _
  | succ n => rw [cnt_succ]; omega
theorem cnt_up_le (n : Nat) {a b : Nat} (h : a ≤ b) : cnt n a ≤ cnt n b := by
  obtain ⟨d, rfl⟩ : ∃ d, b = a + d := ⟨b - a, by omega⟩
  induction d with
  | zero => exact Nat.le_refl _
  | succ d ih => exact Nat.le_trans (ih (by omega)) (cnt_up n (a + d))
/-- the answer of Sessions, for a valid cast and numbers in range -/
def sessE (m n : Nat) : Int := if 2000 < cnt n m then 3 else 0
def pickS (all : List Ss) (l : List Nat) : List Ss := l.map fun i => all.getD i (0, [])
def sessL (all : List Ss) (n : Nat) : List (List Ss) := if 2000 < cnt n all.length then [] else (idxR all.length n 0).map (pickS all)
end Go.Proofs.YtpjmdilpldaapaaDoor
