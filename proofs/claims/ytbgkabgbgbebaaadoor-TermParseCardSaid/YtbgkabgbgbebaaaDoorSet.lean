/- Ascending lists of terms: the plain law behind the lists without repetition (no program in sight). -/
import Derived.Test.YtbgkabgbgbebaaaDoorCmp
namespace Go.Proofs.YtbgkabgbgbebaaaDoor

theorem Tm.lt_trans {a b c : Tm} (h : a.cmp b < 0) (k : b.cmp c < 0) : a.cmp c < 0 := (Tm.cmp_tri a b c).2.1 h (by omega)
theorem Tm.le_trans {a b c : Tm} (h : a.cmp b ≤ 0) (k : b.cmp c ≤ 0) : a.cmp c ≤ 0 := (Tm.cmp_tri a b c).1 h k
theorem Tm.lt_asymm {a b : Tm} (h : a.cmp b < 0) (k : b.cmp a < 0) : False := by have := Tm.cmp_neg a b; omega
def Asc (l : List Tm) : Prop := l.Pairwise fun a b => a.cmp b < 0
theorem asc_unique : ∀ {a b : List Tm}, Asc a → Asc b → (∀ t, t ∈ a ↔ t ∈ b) → a = b
  | [], [], _, _, _ => rfl
  | [], y :: b, _, _, h => by have := (h y).2 (by simp); simp at this
  | x :: a, [], _, _, h => by have := (h x).1 (by simp); simp at this
  | x :: a, y :: b, ha, hb, h => by
    have ha' := List.pairwise_cons.1 ha
    have hb' := List.pairwise_cons.1 hb
    have hxy : x = y := by
      have h1 := (h x).1 (by simp)
      have h2 := (h y).2 (by simp)
      simp only [List.mem_cons] at h1 h2
      rcases h1 with e | h1
      · exact e
      · rcases h2 with e | h2
        · exact e.symm
        · exact absurd (Tm.lt_asymm (ha'.1 y h2) (hb'.1 x h1)) (fun h => h)
    subst hxy
    congr 1
    refine asc_unique ha'.2 hb'.2 fun t => ⟨fun ht => ?_, fun ht => ?_⟩
    · have := (h t).1 (List.mem_cons_of_mem _ ht)
      rcases List.mem_cons.1 this with e | h'
      · subst e; have := ha'.1 t ht; rw [Tm.cmp_self] at this; omega
      · exact h'
    · have := (h t).2 (List.mem_cons_of_mem _ ht)
      rcases List.mem_cons.1 this with e | h'
      · subst e; have := hb'.1 t ht; rw [Tm.cmp_self] at this; omega
      · exact h'

/-- a term is put into an ascending list -/
def Tm.add (t : Tm) : List Tm → List Tm
  | [] => [t]
  | x :: r => if t.cmp x < 0 then t :: x :: r else if t.cmp x = 0 then x :: r else x :: Tm.add t r
theorem Tm.mem_add (t : Tm) : ∀ (l : List Tm) (u : Tm), u ∈ Tm.add t l ↔ u = t ∨ u ∈ l
  | [], u => by simp [Tm.add]
  | x :: r, u => by
    rw [Tm.add]
    split
    · simp
    · split
      · rename_i h; have := Tm.cmp_zero.1 h; subst this; simp
      · rw [List.mem_cons, Tm.mem_add t r u, List.mem_cons]
        constructor
        · rintro (h | h | h)
          · exact .inr (.inl h)
          · exact .inl h
          · exact .inr (.inr h)
        · rintro (h | h | h)
          · exact .inr (.inl h)
          · exact .inl h
          · exact .inr (.inr h)
theorem Tm.add_asc (t : Tm) : ∀ (l : List Tm), Asc l → Asc (Tm.add t l)
  | [], _ => by simp [Tm.add, Asc]
  | x :: r, h => by
    have h' := List.pairwise_cons.1 h
    rw [Tm.add]
    split
    · rename_i hlt
      refine List.pairwise_cons.2 ⟨fun u hu => ?_, h⟩
      rcases List.mem_cons.1 hu with rfl | hu
      · exact hlt
      · exact Tm.lt_trans hlt (h'.1 u hu)
    · split
      · exact h
      · refine List.pairwise_cons.2 ⟨fun u hu => ?_, Tm.add_asc t r h'.2⟩
        rcases (Tm.mem_add t r u).1 hu with rfl | hu
        · have := Tm.cmp_neg u x; omega
        · exact h'.1 u hu
theorem Tm.add_length (t : Tm) : ∀ l : List Tm, (Tm.add t l).length ≤ l.length + 1
  | [] => by simp [Tm.add]
  | x :: r => by
    rw [Tm.add]
    split
    · simp
    · split
      · simp
      · have := Tm.add_length t r; simp; omega
/-- the terms of a list, each once, in order -/
def Tm.set (l : List Tm) : List Tm := l.foldl (fun a t => Tm.add t a) []
theorem Tm.foldl_asc : ∀ (l a : List Tm), Asc a → Asc (l.foldl (fun a t => Tm.add t a) a)
  | [], _, h => h
  | t :: l, a, h => Tm.foldl_asc l _ (Tm.add_asc t a h)
theorem Tm.mem_foldl : ∀ (l a : List Tm) (u : Tm), u ∈ l.foldl (fun a t => Tm.add t a) a ↔ u ∈ a ∨ u ∈ l
  | [], a, u => by simp
  | t :: l, a, u => by
    rw [List.foldl_cons, Tm.mem_foldl l, Tm.mem_add, List.mem_cons]
    constructor
    · rintro ((h | h) | h)
      · exact .inr (.inl h)
      · exact .inl h
      · exact .inr (.inr h)
    · rintro (h | h | h)
      · exact .inl (.inr h)
      · exact .inl (.inl h)
      · exact .inr h
theorem Tm.set_asc (l : List Tm) : Asc (Tm.set l) := Tm.foldl_asc l [] List.Pairwise.nil
theorem Tm.mem_set (l : List Tm) (u : Tm) : u ∈ Tm.set l ↔ u ∈ l := by rw [Tm.set, Tm.mem_foldl]; simp
theorem Tm.set_eq {l m : List Tm} (ha : Asc l) (h : ∀ t, t ∈ l ↔ t ∈ m) : l = Tm.set m := asc_unique ha (Tm.set_asc m) fun t => by rw [h t, Tm.mem_set]
theorem Tm.foldl_length : ∀ (l a : List Tm), (l.foldl (fun a t => Tm.add t a) a).length ≤ a.length + l.length
  | [], a => by simp
  | t :: l, a => by
    have h1 := Tm.foldl_length l (Tm.add t a)
    have h2 := Tm.add_length t a
    rw [List.foldl_cons, List.length_cons]; omega
theorem Tm.set_length (l : List Tm) : (Tm.set l).length ≤ l.length := by have := Tm.foldl_length l []; simpa [Tm.set] using this
theorem Tm.set_take (l : List Tm) (k : Nat) (h : k < l.length) : Tm.set (l.take (k + 1)) = Tm.add l[k] (Tm.set (l.take k)) := by
  rw [List.take_succ_eq_append_getElem h, Tm.set, List.foldl_append]; rfl
end Go.Proofs.YtbgkabgbgbebaaaDoor
