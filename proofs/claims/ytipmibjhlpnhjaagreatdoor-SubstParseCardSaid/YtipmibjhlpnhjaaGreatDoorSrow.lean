/- A row of bindings that the call owns. -/
import Derived.Test.YtipmibjhlpnhjaaGreatDoorSapply
namespace Go.Proofs.YtipmibjhlpnhjaaGreatDoor
open Go.RowKit Go.Sort

/-- a binding with where the kids of its sides lie -/
abbrev IB := It × It
def IB.bd (x : IB) : Bd := (x.1.1, x.2.1)
def bits : List IB → List It
  | [] => []
  | x :: r => x.1 :: x.2 :: bits r
def bCells (l : List IB) : List Value := itCells (bits l)
theorem bits_append (a b : List IB) : bits (a ++ b) = bits a ++ bits b := by
  induction a with
  | nil => rfl
  | cons x r ih => simp [bits, ih]
theorem bits_length (a : List IB) : (bits a).length = a.length * 2 := by
  induction a with
  | nil => rfl
  | cons x r ih => simp [bits, ih]; omega
theorem bCells_append (a b : List IB) : bCells (a ++ b) = bCells a ++ bCells b := by unfold bCells; rw [bits_append, itCells_append]
theorem bCells_length (a : List IB) : (bCells a).length = a.length * 8 := by unfold bCells; rw [itCells_length, bits_length]; omega
theorem bCells_one (a : List IB) : ∀ u ∈ bCells a, u.oneCell' = true := itCells_one _
theorem bits_flat (a : List IB) : (bits a).map (·.1) = flat (a.map IB.bd) := by
  induction a with
  | nil => rfl
  | cons x r ih => simp [bits, flat, IB.bd, ih]
theorem mem_bits {a : List IB} {y : It} (h : y ∈ bits a) : ∃ x ∈ a, y = x.1 ∨ y = x.2 := by
  induction a with
  | nil => simp [bits] at h
  | cons x r ih =>
    simp only [bits, List.mem_cons] at h
    rcases h with h | h | h
    · exact ⟨x, List.mem_cons_self .., .inl h⟩
    · exact ⟨x, List.mem_cons_self .., .inr h⟩
    · obtain ⟨z, hz, e⟩ := ih h
      exact ⟨z, List.mem_cons_of_mem _ hz, e⟩

structure RowB (w : World) (base : Nat) (F : Nat → Prop) (v : Value) (its : List IB) : Prop where
  own : w.ownsRow base 53 8 v its.length (bCells its)
  reps : ∀ x ∈ its, RepP w (fun b => F b ∧ b < w.heap.size ∧ v.ownBlock ≠ some b) x.1.1 x.1.2.1 x.1.2.2 ∧ RepP w (fun b => F b ∧ b < w.heap.size ∧ v.ownBlock ≠ some b) x.2.1 x.2.2.1 x.2.2.2
theorem RowB.nil (w : World) (base : Nat) (F : Nat → Prop) : RowB w base F (.slice none 0 0) [] := ⟨World.ownsRow_nil _ _ _ _, by simp⟩
theorem RowB.keep {w w' : World} {base : Nat} {F : Nat → Prop} {v : Value} {its : List IB} (h : RowB w base F v its) (hs : w.heap.size ≤ w'.heap.size)
    (hc : ∀ b, b < w.heap.size → (F b ∨ v.ownBlock = some b) → w'.heap[b]? = w.heap[b]?) : RowB w' base F v its := by
  refine ⟨⟨h.own.1, ?_⟩, fun x hx => ?_⟩
  · rcases h.own.2 with hn | ⟨g, cap, cur, rfl, hb, hg, r⟩
    · exact .inl hn
    · have hlt : g < w.heap.size := (Array.getElem?_eq_some_iff.1 hg).1
      exact .inr ⟨g, cap, cur, rfl, hb, by rw [hc g hlt (Or.inr rfl)]; exact hg, r⟩
  · have key : ∀ (t : Tm) A c, RepP w (fun b => F b ∧ b < w.heap.size ∧ v.ownBlock ≠ some b) t A c → RepP w' (fun b => F b ∧ b < w'.heap.size ∧ v.ownBlock ≠ some b) t A c := fun t A c hr => by
      refine RepP.mono ?_ ?_ _ _ _ hr
      · rintro b ⟨h1, h2, h3⟩; exact ⟨h1, by omega, h3⟩
      · rintro p ⟨h1, h2, h3⟩; exact World.cell?_of_block (hc p.block h2 (Or.inl h1))
    exact ⟨key _ _ _ (h.reps x hx).1, key _ _ _ (h.reps x hx).2⟩
theorem RowB.below {w w' : World} {base : Nat} {F : Nat → Prop} {v : Value} {its : List IB} (h : RowB w base F v its) (hb : Below w.heap.size w w') : RowB w' base F v its :=
  h.keep hb.size (fun b hlt _ => hb.block b hlt)
theorem RowB.lt {w : World} {base : Nat} {F : Nat → Prop} {v : Value} {its : List IB} (h : RowB w base F v its) : ∀ k, v.ownBlock = some k → base ≤ k ∧ k < w.heap.size := h.own.lt
theorem RowB.toB {w : World} {base : Nat} {F P : Nat → Prop} {v : Value} {its : List IB} (h : RowB w base F v its) (hF : ∀ b, F b → b < w.heap.size → P b) (hP : ∀ b, base ≤ b → b < w.heap.size → P b) :
    ∃ A cap, v = .slice A its.length cap ∧ RepB w P (its.map IB.bd) A cap := by
  rcases h.own.2 with ⟨rfl, h0⟩ | ⟨g, cap, cur, rfl, hb, hg, hnc, hcm, r⟩
  · have : its = [] := List.eq_nil_of_length_eq_zero h0
    subst this
    exact ⟨none, 0, rfl, by simp, by simp [maxLen], .inl rfl⟩
  · refine ⟨some ⟨g, 0, none⟩, cap, rfl, by simpa using hnc, hcm, .inr ⟨g, 0, rfl, hP g hb (Array.getElem?_eq_some_iff.1 hg).1, ?_⟩⟩
    rw [← bits_flat]
    refine RepLP.of_its (bits its) g 0 (fun j u hj => ?_) (fun y hy => ?_)
    · have := h.own.cells (g := g) rfl j u hj
      simpa [Addr.add] using (by
        unfold Addr.add at this
        split at this <;> simp_all)
    · obtain ⟨x, hx, e⟩ := mem_bits hy
      rcases e with rfl | rfl
      · exact RepP.mono (fun b ⟨h1, h2, _⟩ => hF b h1 h2) (fun _ _ => rfl) _ _ _ (h.reps x hx).1
      · exact RepP.mono (fun b ⟨h1, h2, _⟩ => hF b h1 h2) (fun _ _ => rfl) _ _ _ (h.reps x hx).2
theorem bindInfo : (Tryz.prog.info? 53).map (fun i => (i.zero, i.size, i.bytes)) = some (some (.agg #[.int .i64 0, .string ⟨#[]⟩, .int .i64 0, .slice none 0 0, .int .i64 0, .string ⟨#[]⟩, .int .i64 0, .slice none 0 0]), 8, 112) := by kernel_rfl
/-- one binding behind a row, the binding in a block of one that was laid for the purpose -/
theorem RowB.grow1 {w : World} {base : Nat} {F : Nat → Prop} {v : Value} {its : List IB} (hrow : RowB w base F v its) (hbase : base ≤ w.heap.size) (X : IB) (B c : Nat) (fr : Nat × Nat) (hB : w.heap[B]? = Option.some (.cells (bCells [X]).toArray 53 fr))
    (hX1 : RepP w (fun b => F b ∧ b < w.heap.size ∧ v.ownBlock ≠ Option.some b) X.1.1 X.1.2.1 X.1.2.2) (hX2 : RepP w (fun b => F b ∧ b < w.heap.size ∧ v.ownBlock ≠ Option.some b) X.2.1 X.2.2.1 X.2.2.2) (hlen : its.length + 1 ≤ 100000000) :
    ∃ g cap w', (∀ ty, (Builtin.append_ #[27, 27] ty #[v, .slice (Option.some ⟨B, 0, none⟩) 1 c]).run Tryz.prog w = .ok (.slice (Option.some ⟨g, 0, none⟩) (its.length + 1) cap) w') ∧
      RowB w' base F (.slice (Option.some ⟨g, 0, none⟩) (its.length + 1) cap) (its ++ [X]) ∧ w.grownBy w' v.ownBlock ∧ base ≤ g := by
  obtain ⟨i0, hi0, hz0, hz1, hz2⟩ := info_parts bindInfo
  obtain ⟨g, cap, w', h1, h2, h3, h4, h5⟩ := run_append_lies (P := Tryz.prog) w 27 0 base 53 i0 _ 8 112 Tryz.underlying27 hi0 hz0 hz1 hz2 rfl (by omega) v its.length (bCells its) hrow.own ⟨B, 0, none⟩ 1 c (bCells [X]) (by rw [bCells_length]; rfl)
    (fun j u hu => World.news_of_block hB j u (by simpa using hu)) (bCells_one [X]) (by omega) (by unfold maxLen; omega) (by omega) hbase w.heap.size rfl
  have hg : g = w.heap.size ∨ v.ownBlock = Option.some g := by rcases h4 with h | h; exact .inr h; exact .inl h
  refine ⟨g, cap, w', fun ty => h1, ⟨by rw [bCells_append, List.length_append]; exact h2, fun x hx => ?_⟩, h3, (h2.lt g rfl).1⟩
  have key : ∀ (t : Tm) A c, RepP w (fun b => F b ∧ b < w.heap.size ∧ v.ownBlock ≠ Option.some b) t A c → RepP w' (fun b => F b ∧ b < w'.heap.size ∧ (Value.slice (Option.some ⟨g, 0, none⟩) (its.length + 1) cap).ownBlock ≠ Option.some b) t A c := fun t A c hr => by
    refine RepP.mono ?_ ?_ _ _ _ hr
    · rintro b ⟨k1, k2, k3⟩
      refine ⟨k1, Nat.lt_of_lt_of_le k2 h3.size, fun e => ?_⟩
      have e' : g = b := by injection e
      rcases hg with h | h
      · omega
      · rw [e'] at h; exact k3 h
    · rintro p ⟨k1, k2, k3⟩
      exact World.cell?_of_block (h3.block p.block k2 (fun e => k3 e.symm))
  rcases List.mem_append.1 hx with hx | hx
  · exact ⟨key _ _ _ (hrow.reps x hx).1, key _ _ _ (hrow.reps x hx).2⟩
  · obtain rfl : x = X := by simpa using hx
    exact ⟨key _ _ _ hX1, key _ _ _ hX2⟩
end Go.Proofs.YtipmibjhlpnhjaaGreatDoor
