/- Slices of terms that a call builds by append. -/
import Derived.Test.YtbgkabgbgbebaaaDoorTm
import Derived.Test.YtbgkabgbgbebaaaDoorProg
import Derived.Deep.AppendLies
import Derived.Maps.AppendAt
namespace Go.Proofs.YtbgkabgbgbebaaaDoor
open Go.RowKit

abbrev It := Tm × Option Addr × Nat
def Tm.cells (t : Tm) (A : Option Addr) (cap : Nat) : List Value := [.int .i64 t.kind, .string t.name, .int .i64 t.sort, .slice A t.kids.length cap]
def itCells : List It → List Value
  | [] => []
  | x :: r => x.1.cells x.2.1 x.2.2 ++ itCells r
theorem itCells_append (a b : List It) : itCells (a ++ b) = itCells a ++ itCells b := by
  induction a with
  | nil => rfl
  | cons x r ih => simp [itCells, ih]
theorem itCells_length (a : List It) : (itCells a).length = a.length * 4 := by
  induction a with
  | nil => rfl
  | cons x r ih => simp [itCells, Tm.cells, ih]; omega
theorem itCells_one (a : List It) : ∀ u ∈ itCells a, u.oneCell' = true := by
  induction a with
  | nil => simp [itCells]
  | cons x r ih =>
    intro u hu
    simp only [itCells, Tm.cells, List.cons_append, List.nil_append, List.mem_cons] at hu
    rcases hu with rfl | rfl | rfl | rfl | hu
    · rfl
    · rfl
    · rfl
    · rfl
    · exact ih u hu
theorem get_four {α : Type} (a b c d : α) (r : List α) (j : Nat) : (a :: b :: c :: d :: r)[4 + j]? = r[j]? := by
  rw [show 4 + j = j + 1 + 1 + 1 + 1 by omega]; simp
theorem itCells_get : ∀ (a : List It) (i : Nat) (h : i < a.length),
    (itCells a)[i * 4]? = some (.int .i64 a[i].1.kind) ∧ (itCells a)[i * 4 + 1]? = some (.string a[i].1.name) ∧ (itCells a)[i * 4 + 2]? = some (.int .i64 a[i].1.sort) ∧
    (itCells a)[i * 4 + 3]? = some (.slice a[i].2.1 a[i].1.kids.length a[i].2.2)
  | [], _, h => by simp at h
  | x :: r, 0, _ => by simp [itCells, Tm.cells]
  | x :: r, i + 1, h => by
    have g := itCells_get r i (by simpa using h)
    have e0 : (i + 1) * 4 = 4 + i * 4 := by omega
    simp only [itCells, Tm.cells, List.getElem_cons_succ, List.cons_append, List.nil_append]
    rw [e0, Nat.add_assoc 4 (i * 4) 1, Nat.add_assoc 4 (i * 4) 2, Nat.add_assoc 4 (i * 4) 3, get_four, get_four, get_four, get_four]
    exact g

structure RowT (w : World) (base : Nat) (F : Nat → Prop) (v : Value) (its : List It) : Prop where
  own : w.ownsRow base 24 4 v its.length (itCells its)
  reps : ∀ x ∈ its, RepP w (fun b => F b ∧ b < w.heap.size ∧ v.ownBlock ≠ some b) x.1 x.2.1 x.2.2

theorem RowT.nil (w : World) (base : Nat) (F : Nat → Prop) : RowT w base F (.slice none 0 0) [] := ⟨World.ownsRow_nil _ _ _ _, by simp⟩
theorem RowT.keep {w w' : World} {base : Nat} {F : Nat → Prop} {v : Value} {its : List It} (h : RowT w base F v its) (hs : w.heap.size ≤ w'.heap.size)
    (hc : ∀ b, b < w.heap.size → (F b ∨ v.ownBlock = some b) → w'.heap[b]? = w.heap[b]?) : RowT w' base F v its := by
  refine ⟨⟨h.own.1, ?_⟩, fun x hx => ?_⟩
  · rcases h.own.2 with hn | ⟨g, cap, cur, rfl, hb, hg, r⟩
    · exact .inl hn
    · have hlt : g < w.heap.size := (Array.getElem?_eq_some_iff.1 hg).1
      exact .inr ⟨g, cap, cur, rfl, hb, by rw [hc g hlt (Or.inr rfl)]; exact hg, r⟩
  · refine RepP.mono ?_ ?_ _ _ _ (h.reps x hx)
    · rintro b ⟨h1, h2, h3⟩; exact ⟨h1, by omega, h3⟩
    · rintro p ⟨h1, h2, h3⟩; exact World.cell?_of_block (hc p.block h2 (Or.inl h1))
theorem RowT.below {w w' : World} {base : Nat} {F : Nat → Prop} {v : Value} {its : List It} (h : RowT w base F v its) (hb : Below w.heap.size w w') : RowT w' base F v its :=
  h.keep hb.size (fun b hlt _ => hb.block b hlt)
theorem RowT.alloc {w : World} {base : Nat} {F : Nat → Prop} {v : Value} {its : List It} (h : RowT w base F v its) (o : Obj) : RowT (w.alloc o) base F v its :=
  h.below ((Below.refl _ _).alloc (Nat.le_refl _) _)
theorem RowT.drew {w : World} {base : Nat} {F : Nat → Prop} {v : Value} {its : List It} (h : RowT w base F v its) : RowT w.drew base F v its :=
  h.below ((Below.refl _ _).drew)
theorem RowT.setCell {w : World} {base : Nat} {F : Nat → Prop} {v : Value} {its : List It} (h : RowT w base F v its) {p : Addr} (hF : ¬ F p.block) (hp : p.block < base) (u : Value) : RowT (w.setCell p u) base F v its :=
  h.keep (by simp [World.setCell]) (fun b _ hb => Below.heap_setCell _ _ _ _ (by
    rintro rfl
    rcases hb with hb | hb
    · exact hF hb
    · have := (h.own.lt _ hb).1; omega))
theorem RowT.lt {w : World} {base : Nat} {F : Nat → Prop} {v : Value} {its : List It} (h : RowT w base F v its) : ∀ k, v.ownBlock = some k → base ≤ k ∧ k < w.heap.size := h.own.lt
theorem RowT.push {w w' : World} {base : Nat} {F : Nat → Prop} {v v' : Value} {its news : List It} (h : RowT w base F v its)
    (hn : ∀ x ∈ news, RepP w (fun b => F b ∧ b < w.heap.size ∧ v.ownBlock ≠ some b) x.1 x.2.1 x.2.2)
    (ho : w'.ownsRow base 24 4 v' (its.length + news.length) (itCells its ++ itCells news)) (hg : w.grownBy w' v.ownBlock)
    (hat : v'.ownBlock = v.ownBlock ∨ v'.ownBlock = some w.heap.size) : RowT w' base F v' (its ++ news) := by
  refine ⟨by rw [itCells_append, List.length_append]; exact ho, fun x hx => ?_⟩
  have key : RepP w (fun b => F b ∧ b < w.heap.size ∧ v.ownBlock ≠ some b) x.1 x.2.1 x.2.2 := by
    rcases List.mem_append.1 hx with hx | hx
    · exact h.reps x hx
    · exact hn x hx
  refine RepP.mono ?_ ?_ _ _ _ key
  · rintro b ⟨h1, h2, h3⟩
    refine ⟨h1, Nat.lt_of_lt_of_le h2 hg.size, ?_⟩
    rcases hat with e | e <;> rw [e]
    · exact h3
    · intro e; injection e with e; omega
  · rintro p ⟨h1, h2, h3⟩
    exact World.cell?_of_block (hg.block p.block h2 (fun e => h3 e.symm))
theorem RepLP.of_its {w : World} {P : Nat → Prop} : ∀ (its : List It) (b off : Nat), (∀ j u, (itCells its)[j]? = some u → w.cell? ⟨b, off + j, none⟩ = some u) →
    (∀ x ∈ its, RepP w P x.1 x.2.1 x.2.2) → RepLP w P (its.map (·.1)) b off
  | [], _, _, _, _ => by simp [RepLP]
  | x :: r, b, off, hc, hr => by
    rw [List.map_cons, RepLP]
    refine ⟨⟨x.2.1, x.2.2, hc 0 _ (by simp [itCells, Tm.cells]), hc 1 _ (by simp [itCells, Tm.cells]), hc 2 _ (by simp [itCells, Tm.cells]), hc 3 _ (by simp [itCells, Tm.cells]), hr x (by simp)⟩, ?_⟩
    refine RepLP.of_its r b (off + 4) (fun j u hj => ?_) (fun y hy => hr y (by simp [hy]))
    have := hc (4 + j) u (by simp only [itCells, Tm.cells, List.cons_append, List.nil_append]; rw [get_four]; exact hj)
    rw [show off + 4 + j = off + (4 + j) by omega]; exact this
theorem RowT.toS {w : World} {base : Nat} {F P : Nat → Prop} {v : Value} {its : List It} (h : RowT w base F v its) (hF : ∀ b, F b → b < w.heap.size → P b) (hP : ∀ b, base ≤ b → b < w.heap.size → P b) :
    ∃ A cap, v = .slice A its.length cap ∧ RepS w P (its.map (·.1)) A cap := by
  rcases h.own.2 with ⟨rfl, h0⟩ | ⟨g, cap, cur, rfl, hb, hg, hnc, hcm, r⟩
  · have : its = [] := List.eq_nil_of_length_eq_zero h0
    subst this
    exact ⟨none, 0, rfl, by simp, by simp [maxLen], .inl rfl⟩
  · refine ⟨some ⟨g, 0, none⟩, cap, rfl, by simpa using hnc, hcm, .inr ⟨g, 0, rfl, hP g hb (Array.getElem?_eq_some_iff.1 hg).1, ?_⟩⟩
    refine RepLP.of_its its g 0 (fun j u hj => ?_) (fun x hx => ?_)
    · have := h.own.cells (g := g) rfl j u hj
      simpa [Addr.add] using (by
        unfold Addr.add at this
        split at this <;> simp_all)
    · exact RepP.mono (fun b ⟨h1, h2, _⟩ => hF b h1 h2) (fun _ _ => rfl) _ _ _ (h.reps x hx)
theorem termInfo : (Tryd.prog.info? 24).map (fun i => (i.zero, i.size, i.bytes)) = some (some (.agg #[.int .i64 0, .string ⟨#[]⟩, .int .i64 0, .slice none 0 0]), 4, 56) := by kernel_rfl

section
variable {P : Program} {w : World}
theorem push_row {base : Nat} {F : Nat → Prop} {v : Value} {its : List It} {X : It} {g cap : Nat} {w' : World} (hrow : RowT w base F v its)
    (hX : RepP w (fun b => F b ∧ b < w.heap.size ∧ v.ownBlock ≠ some b) X.1 X.2.1 X.2.2)
    (ho : w'.ownsRow base 24 4 (.slice (some ⟨g, 0, none⟩) (its.length + 1) cap) (its.length + 1) (itCells its ++ X.1.cells X.2.1 X.2.2)) (hg : w.grownBy w' v.ownBlock)
    (hat : v.ownBlock = some g ∨ g = w.heap.size) : RowT w' base F (.slice (some ⟨g, 0, none⟩) (its.length + 1) cap) (its ++ [X]) := by
  refine hrow.push (by simpa using hX) (by simpa [itCells] using ho) hg ?_
  rcases hat with e | e
  · left; rw [e]; rfl
  · right; rw [e]; rfl
/-- one term appended to a row of the call's own: at a step of a region that draws its order -/
theorem step_push {ops : Array Oper} {o : Oper} {a : Act} {K : Act → World → Prop} {Q : Exit → Act → World → Prop} {E : Prop} (hgd : o.guard = none) (s x : Operand)
    (ho : o.op = .call { callee := .builtin .append, args := #[s, x], argTypes := #[22, 22] })
    (base : Nat) (F : Nat → Prop) (v : Value) (its : List It) (hs : a.eval s = v) (hrow : RowT w base F v its)
    (X : It) (B c : Nat) (fr : Nat × Nat) (hx : a.eval x = .slice (some ⟨B, 0, none⟩) 1 c) (hB : w.heap[B]? = some (.cells (X.1.cells X.2.1 X.2.2).toArray 24 fr))
    (hX : RepP w (fun b => F b ∧ b < w.heap.size ∧ v.ownBlock ≠ some b) X.1 X.2.1 X.2.2) (hlen : its.length + 1 ≤ 100000000) (hbase : base ≤ w.heap.size)
    (h : ∀ g cap w', RowT w' base F (.slice (some ⟨g, 0, none⟩) (its.length + 1) cap) (its ++ [X]) → w.grownBy w' v.ownBlock → (v.ownBlock = some g ∨ g = w.heap.size) → base ≤ g → K (a.put o.dst (.slice (some ⟨g, 0, none⟩) (its.length + 1) cap)) w') :
    if Region.wanted o (yielded ops a.tmps) = true then Oper.wp Tryd.prog o a w K Q else E := by
  obtain ⟨i0, hi0, hz0, hz1, hz2⟩ := info_parts termInfo
  refine step_append_lies w hgd s x _ ho base _ i0 _ 4 56 Tryd.underlying22 hi0 hz0 hz1 hz2 rfl (by omega) v its.length (itCells its) hs hrow.own ⟨B, 0, none⟩ 1 c (X.1.cells X.2.1 X.2.2) hx rfl
    (fun j u hu => World.news_of_block hB j u (by simpa using hu)) (fun u hu => itCells_one [X] u (by simpa [itCells] using hu)) (by omega) (by unfold maxLen; omega) (by omega) hbase w.heap.size rfl ?_
  intro g cap w' h1 h2 h3 h4
  have hR := push_row hrow hX h1 h2 h3
  exact h g cap w' hR h2 h3 (hR.lt g rfl).1
/-- .. at a bare operation -/
theorem wp_push {o : Oper} {a : Act} {K : Act → World → Prop} {Q : Exit → Act → World → Prop} (_hgd : o.guard = none) (s x : Operand)
    (ho : o.op = .call { callee := .builtin .append, args := #[s, x], argTypes := #[22, 22] })
    (base : Nat) (F : Nat → Prop) (v : Value) (its : List It) (hs : a.eval s = v) (hrow : RowT w base F v its)
    (X : It) (B c : Nat) (fr : Nat × Nat) (hx : a.eval x = .slice (some ⟨B, 0, none⟩) 1 c) (hB : w.heap[B]? = some (.cells (X.1.cells X.2.1 X.2.2).toArray 24 fr))
    (hX : RepP w (fun b => F b ∧ b < w.heap.size ∧ v.ownBlock ≠ some b) X.1 X.2.1 X.2.2) (hlen : its.length + 1 ≤ 100000000) (hbase : base ≤ w.heap.size)
    (h : ∀ g cap w', RowT w' base F (.slice (some ⟨g, 0, none⟩) (its.length + 1) cap) (its ++ [X]) → w.grownBy w' v.ownBlock → (v.ownBlock = some g ∨ g = w.heap.size) → base ≤ g → K (a.put o.dst (.slice (some ⟨g, 0, none⟩) (its.length + 1) cap)) w') :
    Oper.wp Tryd.prog o a w K Q := by
  obtain ⟨i0, hi0, hz0, hz1, hz2⟩ := info_parts termInfo
  refine wp_append_lies w s x _ ho base _ i0 _ 4 56 Tryd.underlying22 hi0 hz0 hz1 hz2 rfl (by omega) v its.length (itCells its) hs hrow.own ⟨B, 0, none⟩ 1 c (X.1.cells X.2.1 X.2.2) hx rfl
    (fun j u hu => World.news_of_block hB j u (by simpa using hu)) (fun u hu => itCells_one [X] u (by simpa [itCells] using hu)) (by omega) (by unfold maxLen; omega) (by omega) hbase w.heap.size rfl ?_
  intro g cap w' h1 h2 h3 h4
  have hR := push_row hrow hX h1 h2 h3
  exact h g cap w' hR h2 h3 (hR.lt g rfl).1
theorem wpList_push {ops : Array Oper} {rest : List Oper} {o : Oper} {a : Act} {Q : Exit → Act → World → Prop} (hgd : o.guard = none) (s x : Operand)
    (ho : o.op = .call { callee := .builtin .append, args := #[s, x], argTypes := #[22, 22] })
    (base : Nat) (F : Nat → Prop) (v : Value) (its : List It) (hs : a.eval s = v) (hrow : RowT w base F v its)
    (X : It) (B c : Nat) (fr : Nat × Nat) (hx : a.eval x = .slice (some ⟨B, 0, none⟩) 1 c) (hB : w.heap[B]? = some (.cells (X.1.cells X.2.1 X.2.2).toArray 24 fr))
    (hX : RepP w (fun b => F b ∧ b < w.heap.size ∧ v.ownBlock ≠ some b) X.1 X.2.1 X.2.2) (hlen : its.length + 1 ≤ 100000000) (hbase : base ≤ w.heap.size)
    (h : ∀ g cap w', RowT w' base F (.slice (some ⟨g, 0, none⟩) (its.length + 1) cap) (its ++ [X]) → w.grownBy w' v.ownBlock → (v.ownBlock = some g ∨ g = w.heap.size) → base ≤ g → wpList Tryd.prog ops Q rest (a.put o.dst (.slice (some ⟨g, 0, none⟩) (its.length + 1) cap)) w') :
    wpList Tryd.prog ops Q (o :: rest) a w := by
  obtain ⟨i0, hi0, hz0, hz1, hz2⟩ := info_parts termInfo
  refine wpList_append_lies w hgd s x _ ho base _ i0 _ 4 56 Tryd.underlying22 hi0 hz0 hz1 hz2 rfl (by omega) v its.length (itCells its) hs hrow.own ⟨B, 0, none⟩ 1 c (X.1.cells X.2.1 X.2.2) hx rfl
    (fun j u hu => World.news_of_block hB j u (by simpa using hu)) (fun u hu => itCells_one [X] u (by simpa [itCells] using hu)) (by omega) (by unfold maxLen; omega) (by omega) hbase w.heap.size rfl ?_
  intro g cap w' h1 h2 h3 h4
  have hR := push_row hrow hX h1 h2 h3
  exact h g cap w' hR h2 h3 (hR.lt g rfl).1
end

/- An element of a row of the call's own is replaced. -/
theorem own_set {w : World} {base : Nat} {e : TypeId} {size g n cap : Nat} {xs : List Value} (h : w.ownsRow base e size (.slice (some ⟨g, 0, none⟩) n cap) n xs) (j : Nat) (u : Value) :
    (w.setCell ⟨g, j, none⟩ u).ownsRow base e size (.slice (some ⟨g, 0, none⟩) n cap) n (xs.set j u) := by
  refine ⟨by rw [List.length_set]; exact h.1, ?_⟩
  rcases h.2 with ⟨hv, _⟩ | ⟨g', cap', cur, hv, hb, hg, hn, hc, hs, ht⟩
  · cases hv
  · injection hv with h1 h2 h3
    injection h1 with h1
    injection h1 with h1
    subst h1 h3
    refine .inr ⟨g, cap, cur.setIfInBounds j u, rfl, hb, ?_, hn, hc, by simpa using hs, ?_⟩
    · simp [World.setCell, Array.getElem?_modify, hg]
    · rw [Array.toList_setIfInBounds, List.take_set, ht]
theorem itCells_set : ∀ (its : List It) (i : Nat) (X : It), i < its.length →
    ((((itCells its).set (i * 4) (.int .i64 X.1.kind)).set (i * 4 + 1) (.string X.1.name)).set (i * 4 + 2) (.int .i64 X.1.sort)).set (i * 4 + 3) (.slice X.2.1 X.1.kids.length X.2.2) = itCells (its.set i X)
  | [], _, _, h => by simp at h
  | x :: r, 0, X, _ => by simp [itCells, Tm.cells]
  | x :: r, i + 1, X, h => by
    have g := itCells_set r i X (by simpa using h)
    have e : (i + 1) * 4 = i * 4 + 1 + 1 + 1 + 1 := by omega
    simp only [itCells, Tm.cells, List.cons_append, List.nil_append, List.set_cons_succ]
    rw [e]
    simp only [show ∀ a : Nat, a + 1 + 1 + 1 + 1 + 1 = (a + 1) + 1 + 1 + 1 + 1 from fun _ => rfl, show ∀ a : Nat, a + 1 + 1 + 1 + 1 + 2 = (a + 2) + 1 + 1 + 1 + 1 from fun _ => rfl, List.set_cons_succ]
    rw [g]
theorem RowT.slot {w : World} {base : Nat} {F : Nat → Prop} {g cap n : Nat} {its : List It} (h : RowT w base F (.slice (some ⟨g, 0, none⟩) n cap) its) (hn : n = its.length) (i : Nat) (hi : i < its.length) :
    w.cell? ⟨g, i * 4, none⟩ = some (.int .i64 its[i].1.kind) ∧ w.cell? ⟨g, i * 4 + 1, none⟩ = some (.string its[i].1.name) ∧ w.cell? ⟨g, i * 4 + 2, none⟩ = some (.int .i64 its[i].1.sort) ∧
    w.cell? ⟨g, i * 4 + 3, none⟩ = some (.slice its[i].2.1 its[i].1.kids.length its[i].2.2) ∧ ∀ o, w.frozen? ⟨g, o, none⟩ = false := by
  subst hn
  have hc : ∀ j u, (itCells its)[j]? = some u → w.cell? ⟨g, j, none⟩ = some u := fun j u hj => by
    have := h.own.cells (g := g) rfl j u hj
    unfold Addr.add at this
    split at this <;> simp_all
  obtain ⟨g0, g1, g2, g3⟩ := itCells_get its i hi
  refine ⟨hc _ _ g0, hc _ _ g1, hc _ _ g2, hc _ _ g3, fun o => ?_⟩
  rcases h.own.2 with ⟨hv, _⟩ | ⟨g', cap', cur, hv, hb, hg, _⟩
  · cases hv
  · injection hv with h1
    injection h1 with h1
    injection h1 with h1
    subst h1
    simp [World.frozen?, hg]
theorem RowT.set {w : World} {base : Nat} {F : Nat → Prop} {g cap n : Nat} {its : List It} (h : RowT w base F (.slice (some ⟨g, 0, none⟩) n cap) its) (hn : n = its.length) (i : Nat) (hi : i < n) (X : It)
    (hX : RepP w (fun b => F b ∧ b < w.heap.size ∧ g ≠ b) X.1 X.2.1 X.2.2) :
    RowT ((((w.setCell ⟨g, i * 4, none⟩ (.int .i64 X.1.kind)).setCell ⟨g, i * 4 + 1, none⟩ (.string X.1.name)).setCell ⟨g, i * 4 + 2, none⟩ (.int .i64 X.1.sort)).setCell ⟨g, i * 4 + 3, none⟩ (.slice X.2.1 X.1.kids.length X.2.2))
      base F (.slice (some ⟨g, 0, none⟩) n cap) (its.set i X) := by
  subst hn
  have hown := own_set (own_set (own_set (own_set h.own (i * 4) (.int .i64 X.1.kind)) (i * 4 + 1) (.string X.1.name)) (i * 4 + 2) (.int .i64 X.1.sort)) (i * 4 + 3) (.slice X.2.1 X.1.kids.length X.2.2)
  rw [itCells_set its i X hi] at hown
  refine ⟨by rw [List.length_set]; exact hown, fun x hx => ?_⟩
  have key : RepP w (fun b => F b ∧ b < w.heap.size ∧ g ≠ b) x.1 x.2.1 x.2.2 := by
    rcases List.mem_or_eq_of_mem_set hx with hx | rfl
    · exact RepP.mono (fun b ⟨h1, h2, h3⟩ => ⟨h1, h2, fun e => h3 (by rw [e]; rfl)⟩) (fun _ _ => rfl) _ _ _ (h.reps x hx)
    · exact hX
  refine RepP.mono ?_ ?_ _ _ _ key
  · rintro b ⟨h1, h2, h3⟩
    exact ⟨h1, by simpa [World.setCell] using h2, fun e => h3 (by injection e)⟩
  · rintro p ⟨h1, h2, h3⟩
    have hne : ∀ o, (⟨g, o, none⟩ : Addr) ≠ p := fun o e => h3 (by rw [← e])
    rw [World.cell?_setCell_other _ _ _ _ (hne _), World.cell?_setCell_other _ _ _ _ (hne _), World.cell?_setCell_other _ _ _ _ (hne _), World.cell?_setCell_other _ _ _ _ (hne _)]
end Go.Proofs.YtbgkabgbgbebaaaDoor
