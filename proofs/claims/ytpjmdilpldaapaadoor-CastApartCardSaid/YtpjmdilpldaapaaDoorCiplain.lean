/- Instances of terms for sessions, plain. -/
import Derived.Test.YtpjmdilpldaapaaDoorCplain
import Derived.Test.YtpjmdilpldaapaaDoorGh
import Derived.Lib.ItoaNum
namespace Go.Proofs.YtpjmdilpldaapaaDoor

/-- does an atom remain? -/
def remB (n : ByteArray) (s : Int) : Bool := decide (s = 1) || decide (s = 5) || hashB n || (decide (n = ⟨#[103]⟩) && decide (s = 4))
def insN (suf : ByteArray) (k : Int) (n : ByteArray) (s : Int) : ByteArray := if k = 2 ∧ remB n s = false then n ++ suf else n
mutual
def Tm.inst (suf : ByteArray) : Tm → Tm
  | .mk k n s l => .mk k (insN suf k n s) s (Tm.insts suf l)
def Tm.insts (suf : ByteArray) : List Tm → List Tm
  | [] => []
  | t :: r => Tm.inst suf t :: Tm.insts suf r
end
def fitN (suf : ByteArray) (k : Int) (n : ByteArray) (s : Int) : Bool := decide (k ≠ 2) || decide ((insN suf k n s).size ≤ 24)
mutual
def Tm.instOk (suf : ByteArray) : Tm → Bool
  | .mk k n s l => fitN suf k n s && Tm.instsOk suf l
def Tm.instsOk (suf : ByteArray) : List Tm → Bool
  | [] => true
  | t :: r => Tm.instOk suf t && Tm.instsOk suf r
end
theorem Tm.insts_eq (suf : ByteArray) : ∀ l, Tm.insts suf l = l.map (Tm.inst suf)
  | [] => rfl
  | t :: r => by rw [Tm.insts, Tm.insts_eq suf r]; rfl
theorem Tm.instsOk_eq (suf : ByteArray) : ∀ l, Tm.instsOk suf l = l.all (Tm.instOk suf)
  | [] => rfl
  | t :: r => by rw [Tm.instsOk, Tm.instsOk_eq suf r]; rfl
theorem Tm.insts_length (suf : ByteArray) (l : List Tm) : (Tm.insts suf l).length = l.length := by rw [Tm.insts_eq, List.length_map]
mutual
theorem Tm.inst_size (suf : ByteArray) : ∀ t : Tm, (t.inst suf).size = t.size
  | .mk k n s l => by rw [Tm.inst, Tm.size, Tm.size, Tm.insts_size suf l]
theorem Tm.insts_size (suf : ByteArray) : ∀ l : List Tm, Tm.sizes (Tm.insts suf l) = Tm.sizes l
  | [] => rfl
  | t :: r => by rw [Tm.insts, Tm.sizes, Tm.sizes, Tm.inst_size suf t, Tm.insts_size suf r]
end
def sufOf (z : Nat) : ByteArray := (⟨#[35]⟩ : ByteArray) ++ (⟨(Lib.decDigits z).toArray⟩ : ByteArray)
/-- the answer of Instance -/
def instT (t : Tm) (z : Int) : Tm := if z < 0 ∨ 99 < z then t else if t.instOk (sufOf z.toNat) = true then t.inst (sufOf z.toNat) else t
theorem instT_size (t : Tm) (z : Int) : (instT t z).size = t.size := by
  unfold instT
  split
  · rfl
  · split
    · exact Tm.inst_size _ _
    · rfl

mutual
theorem Tm.mem_inst (suf : ByteArray) : ∀ (t u : Tm), u ∈ (t.inst suf).all → ∃ v ∈ t.all, u = v.inst suf
  | .mk k n s l, u, h => by
    rw [Tm.inst, Tm.all, List.mem_cons] at h
    rcases h with rfl | h
    · exact ⟨.mk k n s l, by rw [Tm.all]; simp, by rw [Tm.inst]⟩
    · obtain ⟨v, hv, e⟩ := Tm.mem_insts suf l u h
      exact ⟨v, by rw [Tm.all]; exact List.mem_cons_of_mem _ hv, e⟩
theorem Tm.mem_insts (suf : ByteArray) : ∀ (l : List Tm) (u : Tm), u ∈ Tm.alls (Tm.insts suf l) → ∃ v ∈ Tm.alls l, u = v.inst suf
  | [], u, h => by rw [Tm.insts, Tm.alls] at h; simp at h
  | t :: r, u, h => by
    rw [Tm.insts, Tm.alls, List.mem_append] at h
    rcases h with h | h
    · obtain ⟨v, hv, e⟩ := Tm.mem_inst suf t u h
      exact ⟨v, by rw [Tm.alls]; exact List.mem_append_left _ hv, e⟩
    · obtain ⟨v, hv, e⟩ := Tm.mem_insts suf r u h
      exact ⟨v, by rw [Tm.alls]; exact List.mem_append_right _ hv, e⟩
end
mutual
theorem Tm.check_atom : ∀ (t : Tm), t.check = 0 → ∀ v ∈ t.all, v.kind = 2 → v.kids = []
  | .mk k n s l, h, v, hv, hk => by
    rw [Tm.check] at h
    rw [Tm.all, List.mem_cons] at hv
    split at h
    · split at h
      · cases h
      · rename_i h1
        have hl : l = [] := Classical.byContradiction fun e => h1 (.inr (.inr e))
        subst hl
        rcases hv with rfl | hv
        · rfl
        · rw [Tm.alls] at hv; simp at hv
    · rename_i h0
      split at h
      · rename_i h3
        split at h
        · cases h
        · split at h
          · cases h
          · split at h
            · cases h
            · rcases hv with rfl | hv
              · exact absurd (.inr hk) h0
              · exact Tm.checks_atom l h v hv hk
      · cases h
theorem Tm.checks_atom : ∀ (l : List Tm), Tm.checks l = 0 → ∀ v ∈ Tm.alls l, v.kind = 2 → v.kids = []
  | [], _, v, hv, _ => by rw [Tm.alls] at hv; simp at hv
  | t :: r, h, v, hv, hk => by
    rw [Tm.checks] at h
    have ht : t.check = 0 := Classical.byContradiction fun e => by rw [if_pos e] at h; exact e h
    rw [if_neg (by rw [ht]; simp)] at h
    rw [Tm.alls, List.mem_append] at hv
    rcases hv with hv | hv
    · exact Tm.check_atom t ht v hv hk
    · exact Tm.checks_atom r h v hv hk
end

theorem dec_inj {a b : Nat} (ha : a ≤ 99) (hb : b ≤ 99) (h : Lib.decDigits a = Lib.decDigits b) : a = b := by
  have val : ∀ n : Nat, n ≤ 99 → (Lib.decDigits n).foldl (fun x d => x * 10 + (d.toNat - 48)) 0 = n := by
    intro n hn
    by_cases h1 : n < 10
    · rw [Lib.decDigits_one h1]
      simp only [List.foldl_cons, List.foldl_nil, UInt8.toNat_ofNat']
      omega
    · rw [Lib.decDigits_two h1 (by omega)]
      simp only [List.foldl_cons, List.foldl_nil, UInt8.toNat_ofNat']
      omega
  rw [← val a ha, ← val b hb, h]
theorem split_hash : ∀ {l l' r r' : List UInt8}, l.any (· == 35) = false → l'.any (· == 35) = false → l ++ 35 :: r = l' ++ 35 :: r' → r = r'
  | [], [], _, _, _, _, h => by simpa using h
  | [], c :: l', _, _, _, h2, h => by
    simp only [List.nil_append, List.cons_append, List.cons.injEq] at h
    rw [← h.1] at h2
    simp at h2
  | c :: l, [], _, _, h1, _, h => by
    simp only [List.nil_append, List.cons_append, List.cons.injEq] at h
    rw [h.1] at h1
    simp at h1
  | c :: l, d :: l', r, r', h1, h2, h => by
    simp only [List.cons_append, List.cons.injEq] at h
    rw [List.any_cons, Bool.or_eq_false_iff] at h1 h2
    exact split_hash h1.2 h2.2 h.2
theorem suf_list (z : Nat) : (sufOf z).data.toList = 35 :: Lib.decDigits z := by
  unfold sufOf
  rw [ByteArray.data_append]
  simp
/-- an atom of an instance -/
theorem inst_atom {suf : ByteArray} {t u : Tm} (hc : t.check = 0) (hu : u ∈ (t.inst suf).all) (hk : u.kind = 2) :
    u ∈ t.all ∨ ∃ n s, hashB n = false ∧ u = .mk 2 (n ++ suf) s [] := by
  obtain ⟨v, hv, rfl⟩ := Tm.mem_inst suf t u hu
  obtain ⟨k, n, s, l⟩ := v
  rw [Tm.inst] at hk
  have hk : k = 2 := hk
  subst hk
  have hl : l = [] := Tm.check_atom t hc _ hv rfl
  subst hl
  rw [Tm.inst, Tm.insts]
  by_cases hr : remB n s = false
  · right
    refine ⟨n, s, ?_, by rw [insN, if_pos ⟨rfl, hr⟩]⟩
    unfold remB at hr
    rw [Bool.or_eq_false_iff, Bool.or_eq_false_iff] at hr
    exact hr.1.2
  · left
    rw [insN, if_neg (fun h => hr h.2)]
    exact hv
/-- Instances for different numbers have no atoms in common, apart from those that remain. -/
theorem inst_apart {t u : Tm} {a b : Nat} (hc : t.check = 0) (hab : a ≠ b) (hx : instT t a ≠ t) (hy : instT t b ≠ t)
    (h1 : u ∈ (instT t a).all) (h2 : u ∈ (instT t b).all) (hk : u.kind = 2) : u ∈ t.all := by
  have open_ : ∀ z : Nat, instT t z ≠ t → z ≤ 99 ∧ instT t z = t.inst (sufOf z) := fun z hz => by
    unfold instT at hz ⊢
    by_cases h : (z : Int) < 0 ∨ 99 < (z : Int)
    · rw [if_pos h] at hz; exact absurd rfl hz
    · rw [if_neg h] at hz ⊢
      refine ⟨by omega, ?_⟩
      by_cases ho : t.instOk (sufOf (z : Int).toNat) = true
      · rw [if_pos ho, Int.toNat_natCast]
      · rw [if_neg ho] at hz; exact absurd rfl hz
  obtain ⟨ha, ea⟩ := open_ a hx
  obtain ⟨hb, eb⟩ := open_ b hy
  rw [ea] at h1
  rw [eb] at h2
  rcases inst_atom hc h1 hk with h | ⟨n, s, hn, e1⟩
  · exact h
  · rcases inst_atom hc h2 hk with h | ⟨n', s', hn', e2⟩
    · exact h
    · exfalso
      rw [e1] at e2
      injection e2 with _ e
      have e' := congrArg (fun x : ByteArray => x.data.toList) e
      simp only [ByteArray.data_append, Array.toList_append, suf_list] at e'
      exact hab (dec_inj ha hb (split_hash hn hn' e'))
end Go.Proofs.YtpjmdilpldaapaaDoor
