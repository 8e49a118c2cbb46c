/- Substitutions: what they are, their errors, what they do to terms. Plain Lean. -/
import Derived.Test.YtipmibjhlpnhjaaGreatDoorGb
import Derived.Test.YtipmibjhlpnhjaaGreatDoorGc
namespace Go.Proofs.YtipmibjhlpnhjaaGreatDoor

instance : DecidableEq Tm := fun a b => decidable_of_iff (a.cmp b = 0) Tm.cmp_zero
/-- a binding -/
abbrev Bd := Tm × Tm
/-- the sides one behind the other -/
def flat : List Bd → List Tm
  | [] => []
  | b :: r => b.1 :: b.2 :: flat r
theorem flat_length : ∀ l : List Bd, (flat l).length = 2 * l.length
  | [] => rfl
  | b :: r => by simp only [flat, List.length_cons, flat_length r]; omega
theorem flat_get : ∀ (l : List Bd) (i : Nat) (h : i < l.length), (flat l)[2 * i]? = some l[i].1 ∧ (flat l)[2 * i + 1]? = some l[i].2
  | [], _, h => by simp at h
  | b :: r, 0, _ => by simp [flat]
  | b :: r, i + 1, h => by
    have := flat_get r i (by simpa using h)
    simp only [flat, show 2 * (i + 1) = 2 * i + 1 + 1 from by omega, List.getElem?_cons_succ, List.getElem_cons_succ]
    exact this
theorem flat_append : ∀ a b : List Bd, flat (a ++ b) = flat a ++ flat b
  | [], b => by simp [flat]
  | x :: a, b => by simp only [List.cons_append, flat, flat_append a b]

/-- whether a term fits a variable -/
def fits (x t : Tm) : Bool := decide (x.valid = 0) && decide (t.valid = 0) && decide (x.kind = 1) && (decide (x.sort = 0) || (decide (t.kind ≠ 3) && decide (t.sort = x.sort)))
/-- the error of a binding -/
def bindE (b : Bd) : Int := if b.1.valid ≠ 0 then b.1.valid else if b.1.kind ≠ 1 ∨ b.1 = b.2 then 1 else if b.2.valid ≠ 0 then b.2.valid else if fits b.1 b.2 = false then 10 else 0
def after (p : Option Tm) (x : Tm) : Bool := match p with
  | some q => decide (0 ≤ q.cmp x)
  | none => false
/-- the error of bindings behind a variable -/
def bindsO (p : Option Tm) : List Bd → Int
  | [] => 0
  | b :: r => if bindE b ≠ 0 then bindE b else if after p b.1 = true then 5 else bindsO (some b.1) r
/-- the error of a substitution -/
def validS (l : List Bd) : Int := if 200 < l.length then 3 else bindsO none l
def prevAt (l : List Bd) : Nat → Option Tm
  | 0 => none
  | k + 1 => (l[k]?).map (·.1)
def bindsAt (l : List Bd) (k : Nat) : Int := bindsO (prevAt l k) (l.drop k)
theorem bindsAt_zero (l : List Bd) : bindsAt l 0 = bindsO none l := rfl
theorem bindsAt_end (l : List Bd) : bindsAt l l.length = 0 := by unfold bindsAt; rw [List.drop_length]; rfl
theorem bindsAt_step (l : List Bd) (k : Nat) (h : k < l.length) : bindsAt l k = if bindE l[k] ≠ 0 then bindE l[k] else if after (prevAt l k) l[k].1 = true then 5 else bindsAt l (k + 1) := by
  unfold bindsAt
  rw [List.drop_eq_getElem_cons h, bindsO]
  have : prevAt l (k + 1) = some l[k].1 := by simp [prevAt, List.getElem?_eq_getElem h]
  rw [this]
theorem prevAt_pos (l : List Bd) (k : Nat) (h : k < l.length) (h0 : 0 < k) : prevAt l k = some (l[k - 1]'(by omega)).1 := by
  obtain ⟨j, rfl⟩ : ∃ j, k = j + 1 := ⟨k - 1, by omega⟩
  simp [prevAt, List.getElem?_eq_getElem (show j < l.length by omega)]

/-- what a valid binding is -/
theorem bindE_zero {b : Bd} (h : bindE b = 0) : b.1.valid = 0 ∧ b.1.kind = 1 ∧ b.1 ≠ b.2 ∧ b.2.valid = 0 ∧ fits b.1 b.2 = true := by
  unfold bindE at h
  split at h
  · rename_i h1; exact absurd h h1
  · rename_i h1
    split at h
    · omega
    · rename_i h2
      split at h
      · rename_i h3; exact absurd h h3
      · rename_i h3
        split at h
        · omega
        · rename_i h4
          exact ⟨by omega, by omega, fun e => h2 (.inr e), by omega, by simpa using h4⟩
theorem bindsO_zero : ∀ {l : List Bd} {p : Option Tm}, bindsO p l = 0 → (∀ b ∈ l, bindE b = 0) ∧ (∀ q, p = some q → ∀ b ∈ l, q.cmp b.1 < 0) ∧ l.Pairwise (fun a b => a.1.cmp b.1 < 0)
  | [], _, _ => ⟨fun _ h => by simp at h, fun _ _ _ h => by simp at h, List.Pairwise.nil⟩
  | b :: r, p, h => by
    rw [bindsO] at h
    split at h
    · rename_i h1; exact absurd h h1
    · rename_i h1
      split at h
      · omega
      · rename_i h2
        obtain ⟨a1, a2, a3⟩ := bindsO_zero h
        have hb : ∀ c ∈ r, b.1.cmp c.1 < 0 := a2 b.1 rfl
        refine ⟨fun c hc => ?_, fun q hq c hc => ?_, List.Pairwise.cons hb a3⟩
        · rcases List.mem_cons.1 hc with rfl | hc
          · exact Classical.byContradiction h1
          · exact a1 c hc
        · subst hq
          have hqb : q.cmp b.1 < 0 := by simpa [after] using h2
          rcases List.mem_cons.1 hc with rfl | hc
          · exact hqb
          · exact (Tm.cmp_tri q b.1 c.1).2.1 hqb (Int.le_of_lt (hb c hc))
/-- a valid substitution -/
theorem validS_zero {l : List Bd} (h : validS l = 0) : l.length ≤ 200 ∧ (∀ b ∈ l, bindE b = 0) ∧ l.Pairwise (fun a b => a.1.cmp b.1 < 0) := by
  unfold validS at h
  split at h
  · omega
  · obtain ⟨a, -, c⟩ := bindsO_zero h
    exact ⟨by omega, a, c⟩
theorem validS_of {l : List Bd} (h1 : l.length ≤ 200) (h2 : ∀ b ∈ l, bindE b = 0) (h3 : l.Pairwise (fun a b => a.1.cmp b.1 < 0)) : validS l = 0 := by
  have key : ∀ (l : List Bd) (p : Option Tm), (∀ b ∈ l, bindE b = 0) → (∀ q, p = some q → ∀ b ∈ l, q.cmp b.1 < 0) → l.Pairwise (fun a b => a.1.cmp b.1 < 0) → bindsO p l = 0 := by
    intro l
    induction l with
    | nil => intro p _ _ _; rfl
    | cons b r ih =>
      intro p a1 a2 a3
      rw [bindsO, if_neg (by simpa using a1 b (List.mem_cons_self ..)), if_neg]
      · exact ih _ (fun c hc => a1 c (List.mem_cons_of_mem _ hc)) (fun q hq c hc => by injection hq with hq; subst hq; exact (List.pairwise_cons.1 a3).1 c hc) (List.pairwise_cons.1 a3).2
      · cases p with
        | none => simp [after]
        | some q => have := a2 q rfl b (List.mem_cons_self ..); simp [after]; omega
  unfold validS
  rw [if_neg (by omega)]
  exact key l none h2 (fun q hq => by cases hq) h3

/-- what a variable stands for -/
def getS : List Bd → Tm → Tm
  | [], x => x
  | b :: r, x => if b.1 = x then b.2 else getS r x
def hasS : List Bd → Tm → Bool
  | [], _ => false
  | b :: r, x => if b.1 = x then true else hasS r x
mutual
def Tm.put (s : List Bd) : Tm → Tm
  | .mk k n so l => if k = 1 then getS s (.mk k n so l) else .mk k n so (Tm.puts s l)
def Tm.puts (s : List Bd) : List Tm → List Tm
  | [] => []
  | t :: r => t.put s :: Tm.puts s r
end
theorem Tm.puts_length (s : List Bd) : ∀ l : List Tm, (Tm.puts s l).length = l.length
  | [] => rfl
  | t :: r => by simp only [Tm.puts, List.length_cons, Tm.puts_length s r]
theorem Tm.puts_eq (s : List Bd) : ∀ l : List Tm, Tm.puts s l = l.map (Tm.put s)
  | [] => rfl
  | t :: r => by simp only [Tm.puts, List.map_cons, Tm.puts_eq s r]
theorem Tm.puts_take_succ (s : List Bd) (l : List Tm) (k : Nat) (h : k < l.length) : Tm.puts s (l.take (k + 1)) = Tm.puts s (l.take k) ++ [l[k].put s] := by
  rw [Tm.puts_eq, Tm.puts_eq, List.take_succ_eq_append_getElem h, List.map_append]; rfl
theorem getS_not {x : Tm} : ∀ {s : List Bd}, (∀ b ∈ s, b.1 ≠ x) → getS s x = x ∧ hasS s x = false
  | [], _ => ⟨rfl, rfl⟩
  | b :: r, h => by
    rw [getS, hasS, if_neg (h b (List.mem_cons_self ..)), if_neg (h b (List.mem_cons_self ..))]
    exact getS_not (fun c hc => h c (List.mem_cons_of_mem _ hc))
theorem getS_at {x : Tm} : ∀ {s : List Bd} {i : Nat} (h : i < s.length), s[i].1 = x → s.Pairwise (fun a b => a.1.cmp b.1 < 0) → getS s x = s[i].2 ∧ hasS s x = true
  | b :: r, 0, _, he, _ => by
    simp only [List.getElem_cons_zero] at he ⊢
    rw [getS, hasS, if_pos he, if_pos he]; exact ⟨rfl, rfl⟩
  | b :: r, i + 1, h, he, hp => by
    simp only [List.getElem_cons_succ] at he ⊢
    have hi : i < r.length := by simpa using h
    have h1 := (List.pairwise_cons.1 hp).1 r[i] (List.getElem_mem hi)
    have hne : b.1 ≠ x := fun e => by rw [he, e, Tm.cmp_self] at h1; omega
    rw [getS, hasS, if_neg hne, if_neg hne]
    exact getS_at hi he (List.pairwise_cons.1 hp).2
/-- a search that splits the bindings at x finds what x stands for -/
theorem search_get {s : List Bd} (hp : s.Pairwise (fun a b => a.1.cmp b.1 < 0)) {x : Tm} {i : Nat} (hi : i ≤ s.length) (h1 : ∀ k, (h : k < s.length) → k < i → s[k].1.cmp x < 0) (h2 : ∀ k, (h : k < s.length) → i ≤ k → 0 ≤ s[k].1.cmp x) :
    (∀ h : i < s.length, s[i].1.cmp x = 0 → getS s x = s[i].2 ∧ hasS s x = true) ∧ ((∀ h : i < s.length, s[i].1.cmp x ≠ 0) → getS s x = x ∧ hasS s x = false) := by
  refine ⟨fun h e => getS_at h (Tm.cmp_zero.1 e) hp, fun hn => getS_not fun b hb e => ?_⟩
  obtain ⟨k, hk, rfl⟩ := List.getElem_of_mem hb
  have e0 : s[k].1.cmp x = 0 := Tm.cmp_zero.2 e
  rcases Nat.lt_or_ge k i with h | h
  · have := h1 k hk h; omega
  · rcases Nat.lt_or_ge i k with h' | h'
    · have hil : i < s.length := by omega
      have a := (List.pairwise_iff_getElem.1 hp) i k hil hk h'
      have b := h2 i hil (Nat.le_refl _)
      have c := hn hil
      have d := Tm.cmp_neg s[i].1 x
      rw [e] at a
      omega
    · obtain rfl : k = i := by omega
      exact hn hk e0
mutual
theorem Tm.put_nil : ∀ t : Tm, t.put [] = t
  | .mk k n so l => by rw [Tm.put]; split; rfl; rw [Tm.puts_nil l]
theorem Tm.puts_nil : ∀ l : List Tm, Tm.puts [] l = l
  | [] => rfl
  | t :: r => by rw [Tm.puts, Tm.put_nil t, Tm.puts_nil r]
end
/-- the error of an application, or what it gives -/
def applyE (s : List Bd) (t : Tm) : Tm × Int := if t.valid ≠ 0 then (.mk 0 ⟨#[]⟩ 0 [], t.valid) else if (t.put s).valid ≠ 0 then (.mk 0 ⟨#[]⟩ 0 [], (t.put s).valid) else (t.put s, 0)
def ApplyE (s : List Bd) (t : Tm) : Tm × Int := if validS s ≠ 0 then (.mk 0 ⟨#[]⟩ 0 [], validS s) else applyE s t
end Go.Proofs.YtipmibjhlpnhjaaGreatDoor
