/- The order of terms as a plain function, and its laws. -/
import Derived.Test.YtbgkabgbgbebaaaDoorTm
import Derived.Lib.Bytealg
namespace Go.Proofs.YtbgkabgbgbebaaaDoor

def sgn (a b : Int) : Int := if a < b then -1 else if b < a then 1 else 0
def ord (c d : Int) : Int := if c = 0 then d else c
mutual
def Tm.cmp : Tm → Tm → Int
  | .mk k n s l, .mk k' n' s' l' =>
    ord (sgn ((Tm.mk k n s l).size : Int) ((Tm.mk k' n' s' l').size : Int)) (ord (sgn k k') (ord (Lib.compareBytes n.data.toList n'.data.toList) (ord (sgn s s') (ord (sgn (l.length : Int) (l'.length : Int)) (Tm.cmps l l')))))
def Tm.cmps : List Tm → List Tm → Int
  | [], _ => 0
  | _ :: _, [] => 0
  | t :: r, u :: v => ord (Tm.cmp t u) (Tm.cmps r v)
end

/-- what three comparisons of a transitive order have to do with one another -/
def Tri (x y z : Int) : Prop := (x ≤ 0 → y ≤ 0 → z ≤ 0) ∧ (x < 0 → y ≤ 0 → z < 0) ∧ (x ≤ 0 → y < 0 → z < 0) ∧ (x = 0 → z = y) ∧ (y = 0 → z = x)
theorem Tri.ord {x y z x' y' z' : Int} (h : Tri x y z) (h' : Tri x' y' z') : Tri (ord x x') (ord y y') (ord z z') := by
  obtain ⟨h1, h2, h3, h4, h5⟩ := h
  obtain ⟨g1, g2, g3, g4, g5⟩ := h'
  unfold Go.Proofs.YtbgkabgbgbebaaaDoor.ord
  by_cases hx : x = 0
  · by_cases hy : y = 0
    · have hz : z = 0 := by rw [h4 hx]; exact hy
      rw [if_pos hx, if_pos hy, if_pos hz]; exact ⟨g1, g2, g3, g4, g5⟩
    · have hz := h4 hx
      rw [if_pos hx, if_neg hy, if_neg (by omega)]
      subst hz
      refine ⟨?_, ?_, ?_, ?_, ?_⟩ <;> omega
  · by_cases hy : y = 0
    · have hz := h5 hy
      rw [if_neg hx, if_pos hy, if_neg (by omega)]
      subst hz
      refine ⟨?_, ?_, ?_, ?_, ?_⟩ <;> omega
    · rw [if_neg hx, if_neg hy]
      refine ⟨?_, ?_, ?_, ?_, ?_⟩ <;> split <;> omega
theorem sgn_tri (a b c : Int) : Tri (sgn a b) (sgn b c) (sgn a c) := by
  unfold sgn
  refine ⟨?_, ?_, ?_, ?_, ?_⟩ <;> (repeat' split) <;> omega
theorem sgn_neg (a b : Int) : sgn b a = - sgn a b := by unfold sgn; (repeat' split) <;> omega
theorem sgn_zero {a b : Int} : sgn a b = 0 ↔ a = b := by unfold sgn; (repeat' split) <;> omega
theorem sgn_self (a : Int) : sgn a a = 0 := sgn_zero.2 rfl
theorem ord_neg {c d c' d' : Int} (h : c' = -c) (h' : d' = -d) : ord c' d' = - ord c d := by unfold ord; (repeat' split) <;> omega
theorem ord_zero {c d : Int} : ord c d = 0 ↔ c = 0 ∧ d = 0 := by unfold ord; split <;> omega
def Unit3 (c : Int) : Prop := c = -1 ∨ c = 0 ∨ c = 1
theorem sgn_unit (a b : Int) : Unit3 (sgn a b) := by unfold sgn Unit3; (repeat' split) <;> omega
theorem ord_unit {c d : Int} (h : Unit3 c) (h' : Unit3 d) : Unit3 (ord c d) := by unfold ord; split <;> assumption

theorem bytes_unit : ∀ a b : List UInt8, Unit3 (Lib.compareBytes a b)
  | [], [] => by simp [Lib.compareBytes, Unit3]
  | [], _ :: _ => by simp [Lib.compareBytes, Unit3]
  | _ :: _, [] => by simp [Lib.compareBytes, Unit3]
  | a :: as, b :: bs => by
    unfold Lib.compareBytes
    split
    · simp [Unit3]
    · split
      · simp [Unit3]
      · exact bytes_unit as bs
theorem bytes_neg : ∀ a b : List UInt8, Lib.compareBytes b a = - Lib.compareBytes a b
  | [], [] => by simp [Lib.compareBytes]
  | [], _ :: _ => by simp [Lib.compareBytes]
  | _ :: _, [] => by simp [Lib.compareBytes]
  | a :: as, b :: bs => by
    unfold Lib.compareBytes
    by_cases h : a < b
    · have h' : ¬ b < a := UInt8.not_lt.2 (UInt8.le_of_lt h)
      simp [h, h']
    · by_cases h' : b < a
      · simp [h, h']
      · simp only [h, h', if_false]; exact bytes_neg as bs
theorem bytes_zero : ∀ {a b : List UInt8}, Lib.compareBytes a b = 0 ↔ a = b
  | [], [] => by simp [Lib.compareBytes]
  | [], _ :: _ => by simp [Lib.compareBytes]
  | _ :: _, [] => by simp [Lib.compareBytes]
  | a :: as, b :: bs => by
    unfold Lib.compareBytes
    by_cases h : a < b
    · have hne : a ≠ b := fun e => by subst e; exact UInt8.lt_irrefl _ h
      simp [h, hne]
    · by_cases h' : b < a
      · have hne : a ≠ b := fun e => by subst e; exact UInt8.lt_irrefl _ h'
        simp [h, h', hne]
      · have e : a = b := UInt8.le_antisymm (UInt8.not_lt.1 h') (UInt8.not_lt.1 h)
        subst e
        simp only [h, if_false]
        rw [bytes_zero (a := as) (b := bs)]
        simp
theorem bytes_tri : ∀ a b c : List UInt8, Tri (Lib.compareBytes a b) (Lib.compareBytes b c) (Lib.compareBytes a c)
  | [], [], [] => by simp [Lib.compareBytes, Tri]
  | [], [], _ :: _ => by simp [Lib.compareBytes, Tri]
  | [], _ :: _, [] => by simp [Lib.compareBytes, Tri]
  | [], b :: bs, c :: cs => by
    have := bytes_unit (b :: bs) (c :: cs)
    generalize Lib.compareBytes (b :: bs) (c :: cs) = y at this ⊢
    simp [Lib.compareBytes, Tri]
  | _ :: _, [], [] => by simp [Lib.compareBytes, Tri]
  | _ :: _, [], _ :: _ => by simp [Lib.compareBytes, Tri]
  | a :: as, b :: bs, [] => by
    have := bytes_unit (a :: as) (b :: bs)
    generalize Lib.compareBytes (a :: as) (b :: bs) = y at this ⊢
    simp [Lib.compareBytes, Tri]
  | a :: as, b :: bs, c :: cs => by
    have key : ∀ (x y : UInt8) (u v : List UInt8), Lib.compareBytes (x :: u) (y :: v) = ord (sgn (x.toNat : Int) (y.toNat : Int)) (Lib.compareBytes u v) := by
      intro x y u v
      rw [Lib.compareBytes]
      unfold ord sgn
      simp only [UInt8.lt_iff_toNat_lt, Int.ofNat_lt]
      by_cases h : x.toNat < y.toNat
      · simp [h]
      · by_cases h' : y.toNat < x.toNat
        · simp [h, h']
        · simp only [h, h', if_false, if_true]
    rw [key, key, key]
    exact (sgn_tri _ _ _).ord (bytes_tri as bs cs)

mutual
theorem Tm.cmp_unit : ∀ a b : Tm, Unit3 (a.cmp b)
  | .mk k n s l, .mk k' n' s' l' => by
    rw [Tm.cmp]
    exact ord_unit (sgn_unit _ _) (ord_unit (sgn_unit _ _) (ord_unit (bytes_unit _ _) (ord_unit (sgn_unit _ _) (ord_unit (sgn_unit _ _) (Tm.cmps_unit l l')))))
theorem Tm.cmps_unit : ∀ a b : List Tm, Unit3 (Tm.cmps a b)
  | [], _ => by simp [Tm.cmps, Unit3]
  | _ :: _, [] => by simp [Tm.cmps, Unit3]
  | t :: r, u :: v => by rw [Tm.cmps]; exact ord_unit (Tm.cmp_unit t u) (Tm.cmps_unit r v)
end
mutual
theorem Tm.cmp_neg : ∀ a b : Tm, b.cmp a = - a.cmp b
  | .mk k n s l, .mk k' n' s' l' => by
    rw [Tm.cmp, Tm.cmp]
    refine ord_neg (sgn_neg _ _) (ord_neg (sgn_neg _ _) (ord_neg (bytes_neg _ _) (ord_neg (sgn_neg _ _) ?_)))
    by_cases h : l.length = l'.length
    · exact ord_neg (sgn_neg _ _) (Tm.cmps_neg l l' h)
    · have h1 : sgn (l.length : Int) l'.length ≠ 0 := fun e => h (by have := sgn_zero.1 e; omega)
      have h2 : sgn (l'.length : Int) l.length ≠ 0 := fun e => h (by have := sgn_zero.1 e; omega)
      unfold ord
      rw [if_neg h1, if_neg h2]
      exact sgn_neg _ _
theorem Tm.cmps_neg : ∀ a b : List Tm, a.length = b.length → Tm.cmps b a = - Tm.cmps a b
  | [], [], _ => by simp [Tm.cmps]
  | [], _ :: _, h => by simp at h
  | _ :: _, [], h => by simp at h
  | t :: r, u :: v, h => by rw [Tm.cmps, Tm.cmps]; exact ord_neg (Tm.cmp_neg t u) (Tm.cmps_neg r v (by simpa using h))
end
mutual
theorem Tm.cmp_self : ∀ a : Tm, a.cmp a = 0
  | .mk k n s l => by
    rw [Tm.cmp]
    exact ord_zero.2 ⟨sgn_self _, ord_zero.2 ⟨sgn_self _, ord_zero.2 ⟨bytes_zero.2 rfl, ord_zero.2 ⟨sgn_self _, ord_zero.2 ⟨sgn_self _, Tm.cmps_self l⟩⟩⟩⟩⟩
theorem Tm.cmps_self : ∀ a : List Tm, Tm.cmps a a = 0
  | [] => by simp [Tm.cmps]
  | t :: r => by rw [Tm.cmps]; exact ord_zero.2 ⟨Tm.cmp_self t, Tm.cmps_self r⟩
end
mutual
theorem Tm.eq_of_cmp : ∀ a b : Tm, a.cmp b = 0 → a = b
  | .mk k n s l, .mk k' n' s' l', h => by
    rw [Tm.cmp] at h
    obtain ⟨_, g1⟩ := ord_zero.1 h
    obtain ⟨h1, g2⟩ := ord_zero.1 g1
    obtain ⟨h2, g3⟩ := ord_zero.1 g2
    obtain ⟨h3, g4⟩ := ord_zero.1 g3
    obtain ⟨h4, g5⟩ := ord_zero.1 g4
    obtain rfl := sgn_zero.1 h1
    obtain rfl := sgn_zero.1 h3
    have h2' := bytes_zero.1 h2
    have hn : n = n' := by obtain ⟨⟨_⟩⟩ := n; obtain ⟨⟨_⟩⟩ := n'; simp only at h2'; rw [h2']
    subst hn
    rw [Tm.eq_of_cmps l l' (by have := sgn_zero.1 h4; omega) g5]
theorem Tm.eq_of_cmps : ∀ a b : List Tm, a.length = b.length → Tm.cmps a b = 0 → a = b
  | [], [], _, _ => rfl
  | [], _ :: _, h, _ => by simp at h
  | _ :: _, [], h, _ => by simp at h
  | t :: r, u :: v, hl, h => by
    rw [Tm.cmps] at h
    obtain ⟨h1, h2⟩ := ord_zero.1 h
    rw [Tm.eq_of_cmp t u h1, Tm.eq_of_cmps r v (by simpa using hl) h2]
end
theorem Tm.cmp_zero {a b : Tm} : a.cmp b = 0 ↔ a = b := ⟨Tm.eq_of_cmp a b, fun h => by subst h; exact Tm.cmp_self _⟩
theorem ord_z (d : Int) : ord 0 d = d := if_pos rfl
theorem ord_nz {c : Int} (d : Int) (h : c ≠ 0) : ord c d = c := if_neg h
theorem len_tri (a b c : Int) (x y z : Int) (h : a = b → b = c → Tri x y z) : Tri (ord (sgn a b) x) (ord (sgn b c) y) (ord (sgn a c) z) := by
  have hs := sgn_tri a b c
  by_cases h1 : a = b
  · by_cases h2 : b = c
    · exact hs.ord (h h1 h2)
    · have z2 : sgn b c ≠ 0 := fun q => h2 (sgn_zero.1 q)
      subst h1
      rw [sgn_self, ord_z, ord_nz _ z2, ord_nz _ z2]
      generalize sgn a c = q at *
      unfold Tri
      refine ⟨?_, ?_, ?_, ?_, ?_⟩ <;> omega
  · have z1 : sgn a b ≠ 0 := fun q => h1 (sgn_zero.1 q)
    by_cases h2 : b = c
    · subst h2
      rw [sgn_self, ord_z, ord_nz _ z1, ord_nz _ z1]
      generalize sgn a b = q at *
      unfold Tri
      refine ⟨?_, ?_, ?_, ?_, ?_⟩ <;> omega
    · have z2 : sgn b c ≠ 0 := fun q => h2 (sgn_zero.1 q)
      generalize sgn a b = u at *
      generalize sgn b c = v at *
      generalize sgn a c = q at *
      unfold Tri at hs ⊢
      simp only [ord, if_neg z1, if_neg z2]
      refine ⟨?_, ?_, ?_, ?_, ?_⟩ <;> split <;> omega
mutual
theorem Tm.cmp_tri : ∀ a b c : Tm, Tri (a.cmp b) (b.cmp c) (a.cmp c)
  | .mk k n s l, .mk k' n' s' l', .mk k2 n2 s2 l2 => by
    rw [Tm.cmp, Tm.cmp, Tm.cmp]
    exact (sgn_tri _ _ _).ord ((sgn_tri _ _ _).ord ((bytes_tri _ _ _).ord ((sgn_tri _ _ _).ord (len_tri _ _ _ _ _ _ (fun h1 h2 => Tm.cmps_tri l l' l2 (by omega) (by omega))))))
theorem Tm.cmps_tri : ∀ a b c : List Tm, a.length = b.length → b.length = c.length → Tri (Tm.cmps a b) (Tm.cmps b c) (Tm.cmps a c)
  | [], [], [], _, _ => by simp [Tm.cmps, Tri]
  | _ :: _, [], _, h, _ => by simp at h
  | [], _ :: _, _, h, _ => by simp at h
  | _, [], _ :: _, _, h => by simp at h
  | _, _ :: _, [], _, h => by simp at h
  | a :: as, b :: bs, c :: cs, h1, h2 => by
    rw [Tm.cmps, Tm.cmps, Tm.cmps]
    exact (Tm.cmp_tri a b c).ord (Tm.cmps_tri as bs cs (by simpa using h1) (by simpa using h2))
end
theorem Tm.cmp_kid {t k : Tm} (h : k ∈ t.kids) : k.cmp t = -1 := by
  obtain ⟨tk, tn, ts, l⟩ := t
  obtain ⟨kk, kn, ks, m⟩ := k
  obtain ⟨i, hi, he⟩ := List.getElem_of_mem h
  simp only [Tm.kids] at hi he
  have := Tm.sizes_get l i hi
  rw [he] at this
  rw [Tm.cmp]
  have h1 : sgn ((Tm.mk kk kn ks m).size : Int) ((Tm.mk tk tn ts l).size : Int) = -1 := by
    unfold sgn
    rw [if_pos (by simp only [Tm.size] at this ⊢; omega)]
  rw [h1]; rfl
end Go.Proofs.YtbgkabgbgbebaaaDoor
