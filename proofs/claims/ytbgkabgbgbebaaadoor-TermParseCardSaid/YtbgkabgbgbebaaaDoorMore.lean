/- Rows of terms: appended lists (as runs of the built-in, for regions that do not draw), and slices as items. -/
import Derived.Test.YtbgkabgbgbebaaaDoorRow
import Derived.Deep.AppendLies
import Derived.OwnWalk
namespace Go.Proofs.YtbgkabgbgbebaaaDoor
open Go.RowKit

/-- the items of a slice that stands for a list -/
theorem RepLP.its {w : World} {P : Nat → Prop} : ∀ (l : List Tm) (b off : Nat), RepLP w P l b off →
    ∃ its : List It, its.map (·.1) = l ∧ (∀ j u, (itCells its)[j]? = some u → w.cell? ⟨b, off + j, none⟩ = some u) ∧ ∀ x ∈ its, RepP w P x.1 x.2.1 x.2.2
  | [], _, _, _ => ⟨[], rfl, by simp [itCells], by simp⟩
  | t :: r, b, off, h => by
    rw [RepLP] at h
    obtain ⟨⟨A, cap, h0, h1, h2, h3, h4⟩, h5⟩ := h
    obtain ⟨its, hm, hc, hr⟩ := RepLP.its r b (off + 4) h5
    refine ⟨(t, A, cap) :: its, by simp [hm], fun j u hj => ?_, fun x hx => ?_⟩
    · simp only [itCells, Tm.cells, List.cons_append, List.nil_append] at hj
      match j, hj with
      | 0, hj => simp at hj; subst hj; exact h0
      | 1, hj => simp at hj; subst hj; exact h1
      | 2, hj => simp at hj; subst hj; exact h2
      | 3, hj => simp at hj; subst hj; exact h3
      | j + 4, hj => rw [Nat.add_comm j 4, get_four] at hj; rw [show off + (j + 4) = off + 4 + j by omega]; exact hc j u hj
    · rcases List.mem_cons.1 hx with rfl | hx
      · exact h4
      · exact hr x hx

theorem RowT.cells {w : World} {base : Nat} {F : Nat → Prop} {g cap n : Nat} {its : List It} (h : RowT w base F (.slice (some ⟨g, 0, none⟩) n cap) its) : ∀ j u, (itCells its)[j]? = some u → w.cell? ⟨g, 0 + j, none⟩ = some u := fun j u hj => by
  have := h.own.cells (g := g) rfl j u hj
  unfold Addr.add at this
  split at this <;> simp_all

theorem RowT.more {w : World} {base : Nat} {F : Nat → Prop} {v : Value} {its : List It} (hrow : RowT w base F v its) (hF : ∀ b, F b → b < base) (hbase : base ≤ w.heap.size) (b off c m : Nat) (news : List It) (hm : m = news.length)
    (hc : ∀ j u, (itCells news)[j]? = some u → w.cell? ⟨b, off + j, none⟩ = some u) (hN : ∀ x ∈ news, RepP w F x.1 x.2.1 x.2.2) (hlen : its.length + m ≤ 100000000) :
    ∃ A' c' w', (∀ ty, (Builtin.append_ #[22, 22] ty #[v, .slice (some ⟨b, off, none⟩) m c]).run Tryd.prog w = .ok (.slice A' (its.length + m) c') w') ∧
      RowT w' base F (.slice A' (its.length + m) c') (its ++ news) ∧ w.grownBy w' v.ownBlock ∧ (its ++ news ≠ [] → ∃ g, A' = some ⟨g, 0, none⟩) := by
  subst hm
  obtain ⟨i0, hi0, hz0, hz1, hz2⟩ := info_parts termInfo
  have hadd : ∀ j, (⟨b, off, none⟩ : Addr).add j = ⟨b, off + j, none⟩ := fun j => by unfold Addr.add; split <;> simp_all
  obtain ⟨v', w', hr, ho, hg, hnil⟩ := run_append_own (P := Tryd.prog) w base 22 0 24 i0 _ 4 56 Tryd.underlying22 hi0 hz0 hz1 hz2 rfl (by omega) v its.length (itCells its) hrow.own ⟨b, off, none⟩ news.length c (itCells news)
    (itCells_length news) (fun j u hj => by rw [hadd]; exact hc j u hj) (itCells_one news) (by unfold maxLen; omega) (by omega) hbase
  have hrow' : RowT w' base F v' (its ++ news) := by
    refine ⟨by rw [itCells_append, List.length_append]; exact ho, fun x hx => ?_⟩
    have key : RepP w (fun b => F b ∧ b < w.heap.size) x.1 x.2.1 x.2.2 := by
      rcases List.mem_append.1 hx with hx | hx
      · exact RepP.mono (fun b ⟨h1, h2, _⟩ => ⟨h1, h2⟩) (fun _ _ => rfl) _ _ _ (hrow.reps x hx)
      · exact RepP.mono (fun b h1 => ⟨h1, by have := hF b h1; omega⟩) (fun _ _ => rfl) _ _ _ (hN x hx)
    refine RepP.mono ?_ ?_ _ _ _ key
    · rintro k ⟨h1, h2⟩
      have hk := hF k h1
      refine ⟨h1, Nat.lt_of_lt_of_le h2 hg.size, fun e => ?_⟩
      have := (ho.lt k e).1; omega
    · rintro p ⟨h1, h2⟩
      have hk := hF p.block h1
      exact World.cell?_of_block (hg.block p.block h2 (fun e => by have := (hrow.own.lt _ e.symm).1; omega))
  rcases ho.2 with ⟨rfl, h0⟩ | ⟨g, c', cur, rfl, _⟩
  · rw [h0]
    exact ⟨none, 0, w', fun ty => hr, hrow', hg, fun h => absurd (List.eq_nil_of_length_eq_zero (by rw [List.length_append]; exact h0)) h⟩
  · exact ⟨_, c', w', fun ty => hr, hrow', hg, fun _ => ⟨g, rfl⟩⟩

/-- one term behind a row, the term in a block of one that was laid for the purpose -/
theorem RowT.more1 {w : World} {base : Nat} {F : Nat → Prop} {v : Value} {its : List It} (hrow : RowT w base F v its) (hF : ∀ b, F b → b < base) (hbase : base ≤ w.heap.size) (X : It) (hX : RepP w F X.1 X.2.1 X.2.2) (hlen : its.length + 1 ≤ 100000000) :
    ∃ A' c' w', (∀ ty, (Builtin.append_ #[22, 22] ty #[v, .slice (some ⟨w.heap.size, 0, none⟩) 1 1]).run Tryd.prog (w.alloc (.cells #[.int .i64 X.1.kind, .string X.1.name, .int .i64 X.1.sort, .slice X.2.1 X.1.kids.length X.2.2] 24)) = .ok (.slice A' (its.length + 1) c') w') ∧
      RowT w' base F (.slice A' (its.length + 1) c') (its ++ [X]) ∧ (w.alloc (.cells #[.int .i64 X.1.kind, .string X.1.name, .int .i64 X.1.sort, .slice X.2.1 X.1.kids.length X.2.2] 24)).grownBy w' v.ownBlock := by
  obtain ⟨A', c', w', h1, h2, h3, _⟩ := (hrow.alloc (.cells #[.int .i64 X.1.kind, .string X.1.name, .int .i64 X.1.sort, .slice X.2.1 X.1.kids.length X.2.2] 24)).more hF (by simp; omega) w.heap.size 0 1 1 [X] rfl
    (fun j u hj => by
      have hn := heap_alloc_new w (.cells #[.int .i64 X.1.kind, .string X.1.name, .int .i64 X.1.sort, .slice X.2.1 X.1.kids.length X.2.2] 24)
      simp only [itCells, Tm.cells, List.append_nil] at hj
      rw [Nat.zero_add]
      unfold World.cell?
      rw [hn]
      simpa using hj)
    (fun x hx => by
      rw [List.mem_singleton.1 hx]
      exact RepP.mono (fun _ h => h) (fun p hp => World.cell?_of_block (Below.heap_alloc _ _ _ (by have := hF _ hp; omega))) _ _ _ hX) hlen
  exact ⟨A', c', w', h1, h2, h3⟩

/-- an append whose run is known, in a walk: 'go_wp2_with (at_builtin; refine wpList_run_append rfl _ _ rfl rfl rfl hap ?_)' -/
theorem wpList_run_append {w w' : World} {ops : Array Oper} {rest : List Oper} {o : Oper} {a : Act} {Q : Exit → Act → World → Prop} {v u v' : Value} {t : TypeId} (hgd : o.guard = none) (s x : Operand)
    (ho : o.op = .call { callee := .builtin .append, args := #[s, x], argTypes := #[t, t] }) (hs : a.eval s = v) (hx : a.eval x = u)
    (hrun : ∀ ty, (Builtin.append_ #[t, t] ty #[v, u]).run Tryd.prog w = .ok v' w') (h : wpList Tryd.prog ops Q rest (a.put o.dst v') w') : wpList Tryd.prog ops Q (o :: rest) a w := by
  refine wpList_plain hgd fun K hK => ?_
  unfold Oper.wp
  simp [execOp, ho, resolve, invoke, builtin, hs, hx, hrun, Result.andThen]
  exact hK _ _ h
end Go.Proofs.YtbgkabgbgbebaaaDoor
