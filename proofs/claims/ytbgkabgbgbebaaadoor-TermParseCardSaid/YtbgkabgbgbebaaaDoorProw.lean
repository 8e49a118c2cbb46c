/- Rows of ints, and rows of positions (slices of ints). -/
import Derived.Test.YtbgkabgbgbebaaaDoorMore
namespace Go.Proofs.YtbgkabgbgbebaaaDoor
open Go.RowKit

abbrev Ip := List Int × Option Addr × Nat
def ints (p : List Int) : List Value := p.map (Value.int .i64)
def ipVal (x : Ip) : Value := .slice x.2.1 x.1.length x.2.2
/-- a slice of ints that lies in a block of which P holds -/
def IRep (w : World) (P : Nat → Prop) (p : List Int) (A : Option Addr) (cap : Nat) : Prop :=
  ∃ b off, A = some ⟨b, off, none⟩ ∧ P b ∧ p.length ≤ cap ∧ cap ≤ maxLen ∧ ∀ j u, (ints p)[j]? = some u → w.cell? ⟨b, off + j, none⟩ = some u
theorem IRep.mono {w w' : World} {P P' : Nat → Prop} (hP : ∀ b, P b → P' b) (hc : ∀ p : Addr, P p.block → w'.cell? p = w.cell? p) {p : List Int} {A : Option Addr} {cap : Nat} (h : IRep w P p A cap) : IRep w' P' p A cap := by
  obtain ⟨b, off, h1, h2, h3, h4, h5⟩ := h
  exact ⟨b, off, h1, hP b h2, h3, h4, fun j u hj => by rw [hc _ h2]; exact h5 j u hj⟩
theorem ints_length (p : List Int) : (ints p).length = p.length := by simp [ints]
theorem ints_one (p : List Int) : ∀ u ∈ ints p, u.oneCell' = true := by
  intro u hu
  obtain ⟨i, _, rfl⟩ := List.mem_map.1 hu
  rfl
theorem ip_one (its : List Ip) : ∀ u ∈ its.map ipVal, u.oneCell' = true := by
  intro u hu
  obtain ⟨i, _, rfl⟩ := List.mem_map.1 hu
  rfl
theorem irep_of_own {w : World} {base n : Nat} {v : Value} {p : List Int} (h : w.ownsRow base 3 1 v n (ints p)) (hn : n = p.length) (hv : v ≠ .slice none 0 0) :
    ∃ g cap, v = .slice (some ⟨g, 0, none⟩) n cap ∧ base ≤ g ∧ g < w.heap.size ∧ ∀ P : Nat → Prop, P g → IRep w P p (some ⟨g, 0, none⟩) cap := by
  subst hn
  rcases h.2 with ⟨h1, _⟩ | ⟨g, cap, cur, rfl, hb, hg, hnc, hcm, _⟩
  · exact absurd h1 hv
  · refine ⟨g, cap, rfl, hb, (Array.getElem?_eq_some_iff.1 hg).1, fun P hP => ⟨g, 0, rfl, hP, hnc, hcm, fun j u hj => ?_⟩⟩
    have := h.cells (g := g) rfl j u hj
    unfold Addr.add at this
    split at this <;> simp_all

structure PRow (w : World) (base : Nat) (F : Nat → Prop) (v : Value) (its : List Ip) : Prop where
  own : w.ownsRow base 37 1 v its.length (its.map ipVal)
  reps : ∀ x ∈ its, IRep w (fun b => F b ∧ b < w.heap.size ∧ v.ownBlock ≠ some b) x.1 x.2.1 x.2.2
theorem PRow.nil (w : World) (base : Nat) (F : Nat → Prop) : PRow w base F (.slice none 0 0) [] := ⟨World.ownsRow_nil _ _ _ _, by simp⟩
theorem PRow.keep {w w' : World} {base : Nat} {F : Nat → Prop} {v : Value} {its : List Ip} (h : PRow w base F v its) (hs : w.heap.size ≤ w'.heap.size)
    (hc : ∀ b, b < w.heap.size → (F b ∨ v.ownBlock = some b) → w'.heap[b]? = w.heap[b]?) : PRow w' base F v its := by
  refine ⟨⟨h.own.1, ?_⟩, fun x hx => ?_⟩
  · rcases h.own.2 with hn | ⟨g, cap, cur, rfl, hb, hg, r⟩
    · exact .inl hn
    · have hlt : g < w.heap.size := (Array.getElem?_eq_some_iff.1 hg).1
      exact .inr ⟨g, cap, cur, rfl, hb, by rw [hc g hlt (Or.inr rfl)]; exact hg, r⟩
  · refine IRep.mono ?_ ?_ (h.reps x hx)
    · rintro b ⟨h1, h2, h3⟩; exact ⟨h1, by omega, h3⟩
    · rintro p ⟨h1, h2, h3⟩; exact World.cell?_of_block (hc p.block h2 (Or.inl h1))
theorem PRow.below {w w' : World} {base : Nat} {F : Nat → Prop} {v : Value} {its : List Ip} (h : PRow w base F v its) (hb : Below w.heap.size w w') : PRow w' base F v its :=
  h.keep hb.size fun b hb' _ => hb.block b hb'
theorem PRow.lt {w : World} {base : Nat} {F : Nat → Prop} {v : Value} {its : List Ip} (h : PRow w base F v its) : ∀ k, v.ownBlock = some k → base ≤ k ∧ k < w.heap.size := h.own.lt
theorem PRow.loosen {w : World} {base base' : Nat} {F F' : Nat → Prop} {v : Value} {its : List Ip} (h : PRow w base F v its) (hb : base' ≤ base) (hF : ∀ b, F b → F' b) : PRow w base' F' v its := by
  refine ⟨⟨h.own.1, ?_⟩, fun x hx => IRep.mono (fun b ⟨h1, h2⟩ => ⟨hF b h1, h2⟩) (fun _ _ => rfl) (h.reps x hx)⟩
  rcases h.own.2 with h | ⟨g, cap, cur, h1, h2, h3⟩
  · exact .inl h
  · exact .inr ⟨g, cap, cur, h1, by omega, h3⟩
theorem PRow.form {w : World} {base : Nat} {F : Nat → Prop} {v : Value} {its : List Ip} (h : PRow w base F v its) : ∃ A cap, v = .slice A its.length cap ∧ (A = none → cap = 0) := by
  rcases h.own.2 with ⟨rfl, h0⟩ | ⟨g, cap, cur, rfl, _⟩
  · exact ⟨none, 0, by rw [h0], fun _ => rfl⟩
  · exact ⟨_, cap, rfl, fun e => by cases e⟩
/-- an element of a row -/
theorem PRow.slot {w : World} {base : Nat} {F : Nat → Prop} {A : Option Addr} {cap n : Nat} {its : List Ip} (h : PRow w base F (.slice A n cap) its) (i : Nat) (hi : i < its.length) :
    ∃ g, A = some ⟨g, 0, none⟩ ∧ w.cell? ⟨g, i, none⟩ = some (.slice its[i].2.1 its[i].1.length its[i].2.2) := by
  rcases h.own.2 with ⟨hv, h0⟩ | ⟨g, cap', cur, hv, hb, hg, r⟩
  · omega
  · injection hv with h1
    subst h1
    have := h.own.cells (g := g) rfl i (ipVal its[i]) (by simp [hi])
    refine ⟨g, rfl, ?_⟩
    unfold Addr.add at this
    split at this <;> simp_all [ipVal]

theorem posInfo : (Tryd.prog.info? 37).map (fun i => (i.zero, i.size, i.bytes)) = some (some (.slice none 0 0), 1, 24) := by kernel_rfl
theorem intInfo : (Tryd.prog.info? 3).map (fun i => (i.zero, i.size, i.bytes)) = some (some (.int .i64 0), 1, 8) := by kernel_rfl

theorem prow_push {w : World} {base : Nat} {F : Nat → Prop} {v : Value} {its : List Ip} {X : Ip} {g cap : Nat} {w' : World} (hrow : PRow w base F v its)
    (hX : IRep w (fun b => F b ∧ b < w.heap.size ∧ v.ownBlock ≠ some b) X.1 X.2.1 X.2.2)
    (ho : w'.ownsRow base 37 1 (.slice (some ⟨g, 0, none⟩) (its.length + 1) cap) (its.length + 1) (its.map ipVal ++ [ipVal X])) (hg : w.grownBy w' v.ownBlock)
    (hat : v.ownBlock = some g ∨ g = w.heap.size) : PRow w' base F (.slice (some ⟨g, 0, none⟩) (its.length + 1) cap) (its ++ [X]) := by
  refine ⟨by simpa using ho, fun x hx => ?_⟩
  have key : IRep w (fun b => F b ∧ b < w.heap.size ∧ v.ownBlock ≠ some b) x.1 x.2.1 x.2.2 := by
    rcases List.mem_append.1 hx with hx | hx
    · exact hrow.reps x hx
    · rw [List.mem_singleton.1 hx]; exact hX
  refine IRep.mono ?_ ?_ key
  · rintro b ⟨h1, h2, h3⟩
    refine ⟨h1, Nat.lt_of_lt_of_le h2 hg.size, fun e => ?_⟩
    injection e with e
    rcases hat with e' | e'
    · exact h3 (by rw [e']; exact congrArg _ e)
    · simp at e; omega
  · rintro p ⟨h1, h2, h3⟩
    exact World.cell?_of_block (hg.block p.block h2 (fun e => h3 e.symm))
section
variable {w : World}
/-- one position appended to a row, at a bare operation -/
theorem wp_ppush {o : Oper} {a : Act} {K : Act → World → Prop} {Q : Exit → Act → World → Prop} (s x : Operand)
    (ho : o.op = .call { callee := .builtin .append, args := #[s, x], argTypes := #[31, 31] })
    (base : Nat) (F : Nat → Prop) (v : Value) (its : List Ip) (hs : a.eval s = v) (hrow : PRow w base F v its)
    (X : Ip) (B c : Nat) (fr : Nat × Nat) (hx : a.eval x = .slice (some ⟨B, 0, none⟩) 1 c) (hB : w.heap[B]? = some (.cells #[ipVal X] 37 fr))
    (hX : IRep w (fun b => F b ∧ b < w.heap.size ∧ v.ownBlock ≠ some b) X.1 X.2.1 X.2.2) (hlen : its.length + 1 ≤ 100000000) (hbase : base ≤ w.heap.size)
    (h : ∀ g cap w', PRow w' base F (.slice (some ⟨g, 0, none⟩) (its.length + 1) cap) (its ++ [X]) → w.grownBy w' v.ownBlock → (v.ownBlock = some g ∨ g = w.heap.size) → base ≤ g → g < w'.heap.size → K (a.put o.dst (.slice (some ⟨g, 0, none⟩) (its.length + 1) cap)) w') :
    Oper.wp Tryd.prog o a w K Q := by
  obtain ⟨i0, hi0, hz0, hz1, hz2⟩ := info_parts posInfo
  refine wp_append_lies w s x _ ho base _ i0 _ 1 24 Tryd.underlying31 hi0 hz0 hz1 hz2 rfl (by omega) v its.length (its.map ipVal) hs hrow.own ⟨B, 0, none⟩ 1 c [ipVal X] hx rfl
    (fun j u hu => World.news_of_block hB j u (by simpa using hu)) (fun u hu => ip_one [X] u (by simpa using hu)) (by omega) (by unfold maxLen; omega) (by omega) hbase w.heap.size rfl ?_
  intro g cap w' h1 h2 h3 h4
  have hR := prow_push hrow hX h1 h2 h3
  exact h g cap w' hR h2 h3 (hR.lt g rfl).1 h4
/-- one int appended to a row -/
theorem wp_ipush {o : Oper} {a : Act} {K : Act → World → Prop} {Q : Exit → Act → World → Prop} (s x : Operand)
    (ho : o.op = .call { callee := .builtin .append, args := #[s, x], argTypes := #[37, 37] })
    (base : Nat) (v : Value) (n : Nat) (p : List Int) (hs : a.eval s = v) (hrow : w.ownsRow base 3 1 v n (ints p))
    (i : Int) (B c : Nat) (fr : Nat × Nat) (hx : a.eval x = .slice (some ⟨B, 0, none⟩) 1 c) (hB : w.heap[B]? = some (.cells #[.int .i64 i] 3 fr)) (hlen : n + 1 ≤ 100000000) (hbase : base ≤ w.heap.size)
    (h : ∀ g cap w', w'.ownsRow base 3 1 (.slice (some ⟨g, 0, none⟩) (n + 1) cap) (n + 1) (ints (p ++ [i])) → w.grownBy w' v.ownBlock → base ≤ g → g < w'.heap.size → K (a.put o.dst (.slice (some ⟨g, 0, none⟩) (n + 1) cap)) w') :
    Oper.wp Tryd.prog o a w K Q := by
  obtain ⟨i0, hi0, hz0, hz1, hz2⟩ := info_parts intInfo
  refine wp_append_lies w s x _ ho base _ i0 _ 1 8 Tryd.underlying37 hi0 hz0 hz1 hz2 rfl (by omega) v n (ints p) hs hrow ⟨B, 0, none⟩ 1 c [.int .i64 i] hx rfl
    (fun j u hu => World.news_of_block hB j u (by simpa using hu)) (fun u hu => ints_one [i] u (by simpa [ints] using hu)) (by omega) (by unfold maxLen; omega) (by omega) hbase w.heap.size rfl ?_
  intro g cap w' h1 h2 _ h4
  exact h g cap w' (by simpa [ints] using h1) h2 (h1.lt g rfl).1 h4
end
end Go.Proofs.YtbgkabgbgbebaaaDoor
