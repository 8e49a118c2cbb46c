/- Slices of plain cells, rows that a call builds of them, and rows of such slices. -/
import Derived.Test.YtpjmdilpldaapaaDoorCstr
import Derived.Test.YtpjmdilpldaapaaDoorGh
namespace Go.Proofs.YtpjmdilpldaapaaDoor
open Go.RowKit Go.Sort

/-- n elements of sz cells each, one behind the other, in a block of which P holds -/
def RepV (w : World) (P : Nat → Prop) (sz : Nat) (vs : List Value) (A : Option Addr) (n cap : Nat) : Prop :=
  vs.length = n * sz ∧ n ≤ cap ∧ cap ≤ maxLen ∧ (n = 0 ∨ ∃ b off, A = some ⟨b, off, none⟩ ∧ P b ∧ ∀ j u, vs[j]? = some u → w.cell? ⟨b, off + j, none⟩ = some u)
theorem RepV.mono {w w' : World} {P P' : Nat → Prop} {sz : Nat} {vs : List Value} {A : Option Addr} {n cap : Nat} (hP : ∀ b, P b → P' b) (hc : ∀ p : Addr, P p.block → w'.cell? p = w.cell? p) (h : RepV w P sz vs A n cap) : RepV w' P' sz vs A n cap := by
  obtain ⟨h1, h2, h3, h4⟩ := h
  refine ⟨h1, h2, h3, ?_⟩
  rcases h4 with h4 | ⟨b, off, hA, hb, hl⟩
  · exact .inl h4
  · exact .inr ⟨b, off, hA, hP b hb, fun j u hj => by rw [hc _ hb]; exact hl j u hj⟩
theorem RepV.nil {w : World} {P : Nat → Prop} {sz : Nat} : RepV w P sz [] none 0 0 := ⟨by simp, Nat.le_refl _, Nat.zero_le _, .inl rfl⟩
theorem RepV.at {w : World} {P : Nat → Prop} {sz : Nat} {vs : List Value} {A : Option Addr} {n cap : Nat} (h : RepV w P sz vs A n cap) (hn : 0 < n) :
    ∃ b off, A = some ⟨b, off, none⟩ ∧ P b ∧ ∀ j u, vs[j]? = some u → w.cell? ⟨b, off + j, none⟩ = some u := by
  rcases h.2.2.2 with h | h
  · omega
  · exact h
/-- a row of the call's own is such a slice -/
theorem repV_own {w : World} {base n sz : Nat} {te : TypeId} {v : Value} {vs : List Value} (h : w.ownsRow base te sz v n vs) :
    ∃ A cap, v = .slice A n cap ∧ ∀ P : Nat → Prop, (∀ b, base ≤ b → b < w.heap.size → v.ownBlock = Option.some b → P b) → RepV w P sz vs A n cap := by
  rcases h.2 with ⟨rfl, rfl⟩ | ⟨g, cap, cur, rfl, hb, hg, hnc, hcm, -⟩
  · refine ⟨none, 0, rfl, fun P _ => ?_⟩
    have hl := h.1
    exact ⟨hl, Nat.le_refl _, Nat.zero_le _, .inl rfl⟩
  · refine ⟨some ⟨g, 0, none⟩, cap, rfl, fun P hP => ⟨h.1, hnc, hcm, .inr ⟨g, 0, rfl, hP g hb (Array.getElem?_eq_some_iff.1 hg).1 rfl, fun j u hj => ?_⟩⟩⟩
    have := h.cells (g := g) rfl j u hj
    unfold Addr.add at this
    split at this <;> simp_all
theorem own_below {w w' : World} {base n sz : Nat} {te : TypeId} {v : Value} {vs : List Value} (h : w.ownsRow base te sz v n vs) (hb : Below w.heap.size w w') : w'.ownsRow base te sz v n vs := by
  refine ⟨h.1, ?_⟩
  rcases h.2 with hn | ⟨g, cap, cur, rfl, hg, hgb, r⟩
  · exact .inl hn
  · exact .inr ⟨g, cap, cur, rfl, hg, by rw [hb.block g (Array.getElem?_eq_some_iff.1 hgb).1]; exact hgb, r⟩
theorem own_loosen {w : World} {base base' n sz : Nat} {te : TypeId} {v : Value} {vs : List Value} (h : w.ownsRow base te sz v n vs) (hb : base' ≤ base) : w.ownsRow base' te sz v n vs := by
  refine ⟨h.1, ?_⟩
  rcases h.2 with h | ⟨g, cap, cur, h1, h2, h3⟩
  · exact .inl h
  · exact .inr ⟨g, cap, cur, h1, by omega, h3⟩
theorem own_keep {w w' : World} {base n sz : Nat} {te : TypeId} {v : Value} {vs : List Value} (h : w.ownsRow base te sz v n vs) (hc : ∀ k, v.ownBlock = Option.some k → w'.heap[k]? = w.heap[k]?) : w'.ownsRow base te sz v n vs := by
  refine ⟨h.1, ?_⟩
  rcases h.2 with hn | ⟨g, cap, cur, rfl, hg, hgb, r⟩
  · exact .inl hn
  · exact .inr ⟨g, cap, cur, rfl, hg, by rw [hc g rfl]; exact hgb, r⟩

/-- what is known of a type of slices -/
structure SlT (ts te : TypeId) (sz by_ : Nat) (z : Value) : Prop where
  und : Tryd.prog.underlying ts = some (.slice te)
  info : (Tryd.prog.info? te).map (fun i => (i.zero, i.size, i.bytes)) = some (some z, sz, by_)
  cells : z.cells.size = sz
  pos : 0 < sz
  le : by_ ≤ 64
/-- an append's world: what it leaves as it was -/
structure Grew (base : Nat) (w w' : World) (v v' : Value) : Prop where
  below : Below base w w'
  old : ∀ k, k < w.heap.size → v.ownBlock ≠ Option.some k → w'.heap[k]? = w.heap[k]?
  own : v'.ownBlock = v.ownBlock ∨ ∀ k, v'.ownBlock = Option.some k → w.heap.size ≤ k
  size : w.heap.size ≤ w'.heap.size
/-- one element behind a row; the element lies in a block that was laid for the purpose -/
theorem row_add {ts te : TypeId} {sz by_ : Nat} {z : Value} (T : SlT ts te sz by_ z) {w : World} {base n : Nat} {v : Value} {xs : List Value} (hrow : w.ownsRow base te sz v n xs) (hbase : base ≤ w.heap.size)
    (news : List Value) (hl : news.length = sz) (h1 : ∀ u ∈ news, u.oneCell' = true) (hlen : n + 1 ≤ 1000000) :
    ∃ g cap w', (∀ ty, (Builtin.append_ #[ts, ts] ty #[v, .slice (some ⟨w.heap.size, 0, none⟩) 1 1]).run Tryd.prog (w.alloc (.cells news.toArray te)) = .ok (.slice (some ⟨g, 0, none⟩) (n + 1) cap) w') ∧
      w'.ownsRow base te sz (.slice (some ⟨g, 0, none⟩) (n + 1) cap) (n + 1) (xs ++ news) ∧ Grew base w w' v (.slice (some ⟨g, 0, none⟩) (n + 1) cap) := by
  obtain ⟨i0, hi0, hz0, hz1, hz2⟩ := info_parts T.info
  have hb : Below w.heap.size w (w.alloc (.cells news.toArray te)) := below1 (Nat.le_refl _) _
  have hrow' := own_below hrow hb
  have hn := heap_alloc_new w (.cells news.toArray te)
  have hsz : (w.alloc (.cells news.toArray te)).heap.size = w.heap.size + 1 := by simp
  generalize w.alloc (.cells news.toArray te) = Z at *
  have hby : (n + 1) * by_ ≤ 140737488355328 := by
    have := T.le
    have : (n + 1) * by_ ≤ 1000000 * 64 := Nat.mul_le_mul hlen T.le
    omega
  obtain ⟨v', w', hr, ho, hg, -, hat⟩ := run_append_own_at (P := Tryd.prog) (w := Z) base ts 0 te i0 _ sz by_ T.und hi0 hz0 hz1 hz2 T.cells T.pos v n xs hrow'
    ⟨w.heap.size, 0, none⟩ 1 1 news (by rw [hl, Nat.one_mul]) (fun j u hj => World.news_of_block hn j u (by simpa using hj)) h1 (by unfold maxLen; omega) hby (by omega)
  rcases ho.2 with ⟨-, h0⟩ | ⟨g, cap, cur, rfl, _⟩
  · omega
  · refine ⟨g, cap, w', fun ty => hr, ho, below_of_grown (hb.mono hbase) (by omega) hg (fun k hk => (hrow.lt k hk).1), fun k hk hne => ?_, ?_, by have := hg.size; omega⟩
    · rw [hg.block k (by omega) (fun e => hne e.symm), hb.block k hk]
    · rcases hat with h | h
      · exact .inl h
      · right; intro k hk; rw [h] at hk; injection hk with hk; omega

/-- a slice as an element: its cells, its address, its length, its capacity -/
abbrev Iv := List Value × Option Addr × Nat × Nat
def ivVal (x : Iv) : Value := .slice x.2.1 x.2.2.1 x.2.2.2
/-- A row of slices that a call builds; the slices' cells lie apart from it. -/
structure SRow (te : TypeId) (sz : Nat) (w : World) (base : Nat) (v : Value) (its : List Iv) : Prop where
  own : w.ownsRow base te 1 v its.length (its.map ivVal)
  reps : ∀ x ∈ its, RepV w (fun b => base ≤ b ∧ b < w.heap.size ∧ v.ownBlock ≠ Option.some b) sz x.1 x.2.1 x.2.2.1 x.2.2.2
theorem SRow.nil (te : TypeId) (sz : Nat) (w : World) (base : Nat) : SRow te sz w base (.slice none 0 0) [] := ⟨World.ownsRow_nil _ _ _ _, by simp⟩
theorem SRow.lt {te : TypeId} {sz : Nat} {w : World} {base : Nat} {v : Value} {its : List Iv} (h : SRow te sz w base v its) : ∀ k, v.ownBlock = Option.some k → base ≤ k ∧ k < w.heap.size := h.own.lt
theorem SRow.below {te : TypeId} {sz : Nat} {w w' : World} {base : Nat} {v : Value} {its : List Iv} (h : SRow te sz w base v its) (hb : Below w.heap.size w w') : SRow te sz w' base v its :=
  ⟨own_below h.own hb, fun x hx => RepV.mono (fun b ⟨h1, h2, h3⟩ => ⟨h1, by have := hb.size; omega, h3⟩) (fun p hp => hb.cell hp.2.1) (h.reps x hx)⟩
theorem SRow.keep {te : TypeId} {sz : Nat} {w w' : World} {base : Nat} {v : Value} {its : List Iv} (h : SRow te sz w base v its) (hs : w.heap.size ≤ w'.heap.size) (hc : ∀ k, base ≤ k → k < w.heap.size → w'.heap[k]? = w.heap[k]?) : SRow te sz w' base v its :=
  ⟨own_keep h.own (fun k hk => hc k (h.lt k hk).1 (h.lt k hk).2), fun x hx => RepV.mono (fun b ⟨h1, h2, h3⟩ => ⟨h1, by omega, h3⟩) (fun p hp => World.cell?_of_block (hc _ hp.1 hp.2.1)) (h.reps x hx)⟩
theorem SRow.loosen {te : TypeId} {sz : Nat} {w : World} {base base' : Nat} {v : Value} {its : List Iv} (h : SRow te sz w base v its) (hb : base' ≤ base) : SRow te sz w base' v its :=
  ⟨own_loosen h.own hb, fun x hx => RepV.mono (fun b ⟨h1, h2, h3⟩ => ⟨by omega, h2, h3⟩) (fun _ _ => rfl) (h.reps x hx)⟩
/-- an element -/
theorem SRow.slot {te : TypeId} {sz : Nat} {w : World} {base : Nat} {v : Value} {its : List Iv} (h : SRow te sz w base v its) (i : Nat) (hi : i < its.length) :
    ∃ g cap, v = .slice (some ⟨g, 0, none⟩) its.length cap ∧ w.cell? ⟨g, i, none⟩ = some (ivVal its[i]) := by
  rcases h.own.2 with ⟨hv, h0⟩ | ⟨g, cap', cur, rfl, hb, hg, r⟩
  · omega
  · have := h.own.cells (g := g) rfl i (ivVal its[i]) (by simp [hi])
    refine ⟨g, cap', rfl, ?_⟩
    unfold Addr.add at this
    split at this <;> simp_all
/-- one slice behind a row of slices -/
theorem srow_add {ts te : TypeId} {sz by_ : Nat} {z : Value} (T : SlT ts te 1 by_ z) {w : World} {base : Nat} {v : Value} {its : List Iv} (hrow : SRow te sz w base v its) (hbase : base ≤ w.heap.size) (X : Iv)
    (hX : RepV w (fun b => base ≤ b ∧ b < w.heap.size ∧ v.ownBlock ≠ Option.some b) sz X.1 X.2.1 X.2.2.1 X.2.2.2) (hlen : its.length + 1 ≤ 1000000) :
    ∃ g cap w', (∀ ty, (Builtin.append_ #[ts, ts] ty #[v, .slice (some ⟨w.heap.size, 0, none⟩) 1 1]).run Tryd.prog (w.alloc (.cells #[ivVal X] te)) = .ok (.slice (some ⟨g, 0, none⟩) (its.length + 1) cap) w') ∧
      SRow te sz w' base (.slice (some ⟨g, 0, none⟩) (its.length + 1) cap) (its ++ [X]) ∧ Grew base w w' v (.slice (some ⟨g, 0, none⟩) (its.length + 1) cap) := by
  obtain ⟨g, cap, w', hr, ho, hg⟩ := row_add T hrow.own hbase [ivVal X] rfl (fun u hu => by rw [List.mem_singleton.1 hu]; rfl) hlen
  refine ⟨g, cap, w', hr, ⟨by rw [List.length_append, List.map_append]; exact ho, fun x hx => ?_⟩, hg⟩
  have key : RepV w (fun b => base ≤ b ∧ b < w.heap.size ∧ v.ownBlock ≠ Option.some b) sz x.1 x.2.1 x.2.2.1 x.2.2.2 := by
    rcases List.mem_append.1 hx with hx | hx
    · exact hrow.reps x hx
    · rw [List.mem_singleton.1 hx]; exact hX
  refine RepV.mono ?_ ?_ key
  · rintro b ⟨h1, h2, h3⟩
    refine ⟨h1, Nat.lt_of_lt_of_le h2 hg.size, fun e => ?_⟩
    rcases hg.own with h | h
    · exact h3 (by rw [← h]; exact e)
    · have := h b e; omega
  · rintro p ⟨h1, h2, h3⟩
    exact World.cell?_of_block (hg.old p.block h2 h3)

theorem slStr : SlT 22 9 1 16 (.string ⟨#[]⟩) := ⟨Tryd.underlying22, by kernel_rfl, rfl, by decide, by decide⟩
theorem slStrs : SlT 59 22 1 24 (.slice none 0 0) := ⟨Tryd.underlying59, by kernel_rfl, rfl, by decide, by decide⟩
theorem slInt : SlT 65 3 1 8 (.int .i64 0) := ⟨Tryd.underlying65, by kernel_rfl, rfl, by decide, by decide⟩
theorem slInts : SlT 64 65 1 24 (.slice none 0 0) := ⟨Tryd.underlying64, by kernel_rfl, rfl, by decide, by decide⟩
theorem slSe : SlT 58 63 2 32 (.agg #[.int .i64 0, .slice none 0 0]) := ⟨Tryd.underlying58, by kernel_rfl, rfl, by decide, by decide⟩
theorem slSes : SlT 27 58 1 24 (.slice none 0 0) := ⟨Tryd.underlying27, by kernel_rfl, rfl, by decide, by decide⟩

def strs (l : List ByteArray) : List Value := l.map Value.string
theorem strs_one (l : List ByteArray) : ∀ u ∈ strs l, u.oneCell' = true := by
  intro u hu
  obtain ⟨i, _, rfl⟩ := List.mem_map.1 hu
  rfl
theorem strs_get {l : List ByteArray} {j : Nat} (h : j < l.length) : (strs l)[j]? = some (.string l[j]) := by simp [strs, h]
/-- a slice of strings as plain cells, and back -/
theorem RepN.toV {w : World} {P : Nat → Prop} {l : List ByteArray} {A : Option Addr} {cap : Nat} (h : RepN w P l A cap) : RepV w P 1 (strs l) A l.length cap := by
  obtain ⟨h1, h2, h3, h4⟩ := h
  refine ⟨by simp [strs], h1, h2, ?_⟩
  rcases h4 with h4 | ⟨b, off, hA, hb, hl⟩
  · left; rw [h4]; rfl
  · refine .inr ⟨b, off, hA, hb, fun j u hj => ?_⟩
    obtain ⟨hj1, hj2⟩ := List.getElem?_eq_some_iff.1 hj
    have hjl : j < l.length := by simpa [strs] using hj1
    rw [hl j hjl, ← hj2]
    simp [strs]
theorem RepV.toN {w : World} {P : Nat → Prop} {l : List ByteArray} {A : Option Addr} {n cap : Nat} (h : RepV w P 1 (strs l) A n cap) (hs : ∀ x ∈ l, x.size ≤ maxLen) : n = l.length ∧ RepN w P l A cap := by
  obtain ⟨h1, h2, h3, h4⟩ := h
  have hn : n = l.length := by rw [Nat.mul_one, strs, List.length_map] at h1; exact h1.symm
  refine ⟨hn, by omega, h3, hs, ?_⟩
  rcases h4 with h4 | ⟨b, off, hA, hb, hl⟩
  · left; exact List.eq_nil_of_length_eq_zero (by omega)
  · exact .inr ⟨b, off, hA, hb, fun j hj => hl j _ (strs_get hj)⟩
/-- slices.Clone of strings -/
theorem cloneN (l : List ByteArray) (A : Option Addr) (cap : Nat) (w : World) {P : Nat → Prop} (h : RepN w P l A cap) (hl : l.length ≤ 1000000) :
    Calls Tryd.prog 45 #[.slice A l.length cap] w fun e w' => ∃ v', e = .returned v' ∧ w'.ownsRow w.heap.size 9 1 v' l.length (strs l) ∧ Below w.heap.size w w' := by
  by_cases hne : l = []
  · subst hne
    cases A with
    | none =>
      refine (Tryd.slices_Clone_string_nil 0 cap w).mono ?_
      rintro e w' ⟨rfl, rfl⟩
      exact ⟨_, rfl, World.ownsRow_nil _ _ _ _, Below.refl _ _⟩
    | some a =>
      refine (Tryd.slices_Clone_string_zero a cap w).mono ?_
      rintro e w' ⟨v', rfl, ho, -, hb⟩
      exact ⟨v', rfl, ho, hb⟩
  · obtain ⟨b, off, rfl, -, hc⟩ := h.cells hne
    refine (Tryd.slices_Clone_string b off l.length cap l w (Nat.le_refl _) (by omega) (fun j hj => by rw [getD_get l j hj]; exact hc j hj)).mono ?_
    rintro e w' ⟨v', rfl, ho, -, hb⟩
    rw [List.take_length] at ho
    exact ⟨v', rfl, ho, hb⟩
theorem append_of_nil {w : World} {base : Nat} {e : TypeId} {size n : Nat} {v : Value} {xs : List Value} (t ty : TypeId) (i : TypeInfo) (ht : Tryd.prog.underlying t = some (.slice e)) (hi : Tryd.prog.info? e = some i)
    (hown : w.ownsRow base e size v n xs) (c : Nat) : (Builtin.append_ #[t, t] ty #[v, .slice none 0 c]).run Tryd.prog w = .ok v w := by
  rcases hown.2 with ⟨rfl, rfl⟩ | ⟨g, cap, cur, rfl, _, _, hnc, _⟩
  · simp [Builtin.append_, run_underlying ht, sizeOf, typeInfo, hi, Builtin.lenOf, Builtin.firstCells]
  · simp [Builtin.append_, run_underlying ht, sizeOf, typeInfo, hi, Builtin.lenOf, Builtin.firstCells, hnc, storeCells]
theorem wp_run_append {w w' : World} {o : Oper} {a : Act} {K : Act → World → Prop} {Q : Exit → Act → World → Prop} {v u v' : Value} {t : TypeId} (s x : Operand)
    (ho : o.op = .call { callee := .builtin .append, args := #[s, x], argTypes := #[t, t] }) (hs : a.eval s = v) (hx : a.eval x = u)
    (hrun : ∀ ty, (Builtin.append_ #[t, t] ty #[v, u]).run Tryd.prog w = .ok v' w') (h : K (a.put o.dst v') w') : Oper.wp Tryd.prog o a w K Q := by
  unfold Oper.wp
  simp [execOp, ho, resolve, invoke, builtin, hs, hx, hrun, Result.andThen]
  exact h
set_option maxRecDepth 100000 in
/-- a slice behind a row -/
theorem row_addV {ts te : TypeId} {sz by_ : Nat} {z : Value} (T : SlT ts te sz by_ z) {w : World} {base n m : Nat} {v : Value} {xs vs : List Value} (hrow : w.ownsRow base te sz v n xs) (hbase : base ≤ w.heap.size)
    {P : Nat → Prop} {A : Option Addr} {c : Nat} (hs : RepV w P sz vs A m c) (h1 : ∀ u ∈ vs, u.oneCell' = true) (h63 : n + m ≤ maxLen) (hby : (n + m) * by_ ≤ 140737488355328) :
    ∃ v' w', (∀ ty, (Builtin.append_ #[ts, ts] ty #[v, .slice A m c]).run Tryd.prog w = .ok v' w') ∧ w'.ownsRow base te sz v' (n + m) (xs ++ vs) ∧ Grew base w w' v v' := by
  obtain ⟨i0, hi0, hz0, hz1, hz2⟩ := info_parts T.info
  cases A with
  | none =>
    have hm : m = 0 := by
      rcases hs.2.2.2 with h | ⟨_, _, h, _⟩
      · exact h
      · cases h
    subst hm
    have hv : vs = [] := List.eq_nil_of_length_eq_zero (by rw [hs.1, Nat.zero_mul])
    subst hv
    exact ⟨v, w, fun ty => append_of_nil _ ty i0 T.und hi0 hrow c, by rw [List.append_nil]; exact hrow, Below.refl _ _, fun _ _ _ => rfl, .inl rfl, Nat.le_refl _⟩
  | some a =>
    obtain ⟨v', w', hr, ho, hg, -, hat⟩ := run_append_own_at (P := Tryd.prog) (w := w) base ts 0 te i0 _ sz by_ T.und hi0 hz0 hz1 hz2 T.cells T.pos v n xs hrow a m c vs hs.1 (fun j u hj => by
      rcases hs.2.2.2 with h | ⟨b, off, h, _, hc⟩
      · subst h
        have hv : vs = [] := List.eq_nil_of_length_eq_zero (by rw [hs.1, Nat.zero_mul])
        subst hv; simp at hj
      · injection h with h
        subst h
        have := hc j u hj
        rw [show (⟨b, off, none⟩ : Addr).add j = ⟨b, off + j, none⟩ by unfold Addr.add; split <;> simp_all]
        exact this) h1 h63 hby hbase
    refine ⟨v', w', fun ty => hr, ho, below_of_grown (Below.refl _ _) hbase hg (fun k hk => (hrow.lt k hk).1), fun k hk hne => hg.block k hk (fun e => hne e.symm), ?_, hg.size⟩
    rcases hat with h | h
    · exact .inl h
    · right; intro k hk; rw [h] at hk; injection hk with hk; omega

end Go.Proofs.YtpjmdilpldaapaaDoor
