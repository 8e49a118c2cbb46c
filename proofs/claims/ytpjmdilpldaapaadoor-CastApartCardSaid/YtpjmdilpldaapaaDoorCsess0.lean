/- Rows of sessions, and what the walk of Sessions rests on. -/
import Derived.Test.YtpjmdilpldaapaaDoorCchosen
namespace Go.Proofs.YtpjmdilpldaapaaDoor
open Go.RowKit Go.Sort

abbrev Se := Ss × Option Addr × Nat
def seCells (x : Se) : List Value := [.int .i64 x.1.1, .slice x.2.1 x.1.2.length x.2.2]
theorem seCells_one (its : List Se) : ∀ u ∈ its.flatMap seCells, u.oneCell' = true := by
  intro u hu
  obtain ⟨x, _, hu⟩ := List.mem_flatMap.1 hu
  unfold seCells at hu
  simp only [List.mem_cons, List.not_mem_nil, or_false] at hu
  rcases hu with rfl | rfl <;> rfl
theorem seCells_length (its : List Se) : (its.flatMap seCells).length = its.length * 2 := by
  induction its with
  | nil => rfl
  | cons x r ih => rw [List.flatMap_cons, List.length_append, ih]; simp [seCells]; omega
theorem seCells_get : ∀ (its : List Se) (i : Nat) (h : i < its.length), (its.flatMap seCells)[i * 2]? = some (.int .i64 its[i].1.1) ∧ (its.flatMap seCells)[i * 2 + 1]? = some (.slice its[i].2.1 its[i].1.2.length its[i].2.2)
  | [], _, h => by simp at h
  | x :: r, 0, _ => by simp [seCells]
  | x :: r, i + 1, h => by
    have g := seCells_get r i (by simpa using h)
    have e : (i + 1) * 2 = i * 2 + 1 + 1 := by omega
    rw [List.flatMap_cons, e]
    simpa [seCells] using g
/-- a row of sessions that a call builds; the agents lie apart from it -/
structure SeRow (w : World) (base : Nat) (v : Value) (its : List Se) : Prop where
  own : w.ownsRow base 63 2 v its.length (its.flatMap seCells)
  reps : ∀ x ∈ its, RepN w (fun b => base ≤ b ∧ b < w.heap.size ∧ v.ownBlock ≠ Option.some b) x.1.2 x.2.1 x.2.2
theorem SeRow.nil (w : World) (base : Nat) : SeRow w base (.slice none 0 0) [] := ⟨World.ownsRow_nil _ _ _ _, by simp⟩
theorem SeRow.lt {w : World} {base : Nat} {v : Value} {its : List Se} (h : SeRow w base v its) : ∀ k, v.ownBlock = Option.some k → base ≤ k ∧ k < w.heap.size := h.own.lt
theorem SeRow.below {w w' : World} {base : Nat} {v : Value} {its : List Se} (h : SeRow w base v its) (hb : Below w.heap.size w w') : SeRow w' base v its :=
  ⟨own_below h.own hb, fun x hx => RepN.mono (fun b ⟨h1, h2, h3⟩ => ⟨h1, by have := hb.size; omega, h3⟩) (fun p hp => hb.cell hp.2.1) (h.reps x hx)⟩
theorem SeRow.loosen {w : World} {base base' : Nat} {v : Value} {its : List Se} (h : SeRow w base v its) (hb : base' ≤ base) : SeRow w base' v its :=
  ⟨own_loosen h.own hb, fun x hx => RepN.mono (fun b ⟨h1, h2, h3⟩ => ⟨by omega, h2, h3⟩) (fun _ _ => rfl) (h.reps x hx)⟩
theorem SeRow.form {w : World} {base : Nat} {v : Value} {its : List Se} (h : SeRow w base v its) : ∃ A c, v = .slice A its.length c := by
  obtain ⟨A, c, h, -⟩ := repV_own h.own
  exact ⟨A, c, h⟩
theorem SRow.form {te : TypeId} {sz : Nat} {w : World} {base : Nat} {v : Value} {its : List Iv} (h : SRow te sz w base v its) : ∃ A c, v = .slice A its.length c := by
  obtain ⟨A, c, h, -⟩ := repV_own h.own
  exact ⟨A, c, h⟩
/-- the cells of a session of a row -/
theorem SeRow.slot {w : World} {base : Nat} {A : Option Addr} {n c : Nat} {its : List Se} (h : SeRow w base (.slice A n c) its) (i : Nat) (hi : i < its.length) :
    ∃ g, A = some ⟨g, 0, none⟩ ∧ w.cell? ⟨g, i * 2, none⟩ = some (.int .i64 its[i].1.1) ∧ w.cell? ⟨g, i * 2 + 1, none⟩ = some (.slice its[i].2.1 its[i].1.2.length its[i].2.2) := by
  obtain ⟨g0, g1⟩ := seCells_get its i hi
  rcases h.own.2 with ⟨hv, h0⟩ | ⟨g, cap', cur, hv, hb, hg, r⟩
  · omega
  · injection hv with hv
    subst hv
    have k0 := h.own.cells (g := g) rfl (i * 2) _ g0
    have k1 := h.own.cells (g := g) rfl (i * 2 + 1) _ g1
    refine ⟨g, rfl, ?_, ?_⟩
    · unfold Addr.add at k0
      split at k0 <;> simp_all
    · unfold Addr.add at k1
      split at k1 <;> simp_all
theorem serow_add {w : World} {base : Nat} {v : Value} {its : List Se} (hrow : SeRow w base v its) (hbase : base ≤ w.heap.size) (X : Se)
    (hX : RepN w (fun b => base ≤ b ∧ b < w.heap.size ∧ v.ownBlock ≠ Option.some b) X.1.2 X.2.1 X.2.2) (hlen : its.length + 1 ≤ 1000000) :
    ∃ g cap w', (∀ ty, (Builtin.append_ #[58, 58] ty #[v, .slice (some ⟨w.heap.size, 0, none⟩) 1 1]).run Tryd.prog (w.alloc (.cells #[.int .i64 X.1.1, .slice X.2.1 X.1.2.length X.2.2] 63)) = .ok (.slice (some ⟨g, 0, none⟩) (its.length + 1) cap) w') ∧
      SeRow w' base (.slice (some ⟨g, 0, none⟩) (its.length + 1) cap) (its ++ [X]) ∧ Grew base w w' v (.slice (some ⟨g, 0, none⟩) (its.length + 1) cap) := by
  obtain ⟨g, cap, w', hr, ho, hg⟩ := row_add slSe hrow.own hbase (seCells X) rfl (fun u hu => seCells_one [X] u (by simpa using hu)) hlen
  refine ⟨g, cap, w', hr, ⟨by rw [List.length_append, List.flatMap_append]; simpa using ho, fun x hx => ?_⟩, hg⟩
  have key : RepN w (fun b => base ≤ b ∧ b < w.heap.size ∧ v.ownBlock ≠ Option.some b) x.1.2 x.2.1 x.2.2 := by
    rcases List.mem_append.1 hx with hx | hx
    · exact hrow.reps x hx
    · rw [List.mem_singleton.1 hx]; exact hX
  refine RepN.mono ?_ ?_ key
  · rintro b ⟨h1, h2, h3⟩
    refine ⟨h1, Nat.lt_of_lt_of_le h2 hg.size, fun e => ?_⟩
    rcases hg.own with h | h
    · exact h3 (by rw [← h]; exact e)
    · have := h b e; omega
  · rintro p ⟨h1, h2, h3⟩
    exact World.cell?_of_block (hg.old p.block h2 h3)

theorem roleS_succ (bad : List ByteArray) (L : List (List ByteArray)) (r m : Nat) (h : m < L.length) :
    roleS bad (L.take (m + 1)) r = roleS bad (L.take m) r ++ (if hasS bad (L[m].getD r ByteArray.empty) = true then [] else [(r, L[m])]) := by
  unfold roleS
  rw [List.take_succ_eq_append_getElem h, List.filter_append, List.map_append]
  congr 1
  cases h2 : hasS bad (L[m].getD r ByteArray.empty) <;> simp only [List.filter_cons, h2, Bool.not_false, Bool.not_true, List.filter_nil, if_true, Bool.false_eq_true, if_false, List.map_cons, List.map_nil]
theorem mem_roleS {bad : List ByteArray} {L : List (List ByteArray)} {r : Nat} {x : Ss} (h : x ∈ roleS bad L r) : x.2 ∈ L := by
  unfold roleS at h
  obtain ⟨l, hl, rfl⟩ := List.mem_map.1 h
  exact (List.mem_filter.1 hl).1
theorem mem_allS {ags bad : List ByteArray} {roles k : Nat} {x : Ss} (h : x ∈ allS ags bad roles k) : x.2.length = roles := by
  unfold allS at h
  obtain ⟨r, _, h⟩ := List.mem_flatMap.1 h
  exact (mem_tups ags roles x.2 (mem_roleS h)).1
def ints' (l : List Nat) : List Value := l.map fun (i : Nat) => Value.int .i64 (i : Int)
theorem ints'_one (l : List Nat) : ∀ u ∈ ints' l, u.oneCell' = true := by
  intro u hu
  obtain ⟨i, _, rfl⟩ := List.mem_map.1 hu
  rfl
theorem ints'_get {l : List Nat} {j : Nat} (h : j < l.length) : (ints' l)[j]? = some (.int .i64 (l[j] : Int)) := by simp [ints', h]
/-- slices.Clone of ints -/
theorem cloneI (l : List Nat) (A : Option Addr) (cap : Nat) (w : World) {P : Nat → Prop} (h : RepV w P 1 (ints' l) A l.length cap) (hl : l.length ≤ 1000000) :
    Calls Tryd.prog 44 #[.slice A l.length cap] w fun e w' => ∃ v', e = .returned v' ∧ w'.ownsRow w.heap.size 3 1 v' l.length (ints' l) ∧ Below w.heap.size w w' := by
  by_cases hne : l = []
  · subst hne
    cases A with
    | none =>
      refine (Tryd.slices_Clone_int_nil 0 cap w).mono ?_
      rintro e w' ⟨rfl, rfl⟩
      exact ⟨_, rfl, World.ownsRow_nil _ _ _ _, Below.refl _ _⟩
    | some a =>
      refine (Tryd.slices_Clone_int_zero a cap w).mono ?_
      rintro e w' ⟨v', rfl, ho, -, hb⟩
      exact ⟨v', rfl, ho, hb⟩
  · obtain ⟨b, off, rfl, -, hc⟩ := h.at (List.length_pos_iff.2 hne)
    refine (Tryd.slices_Clone_int b off l.length cap (l.map fun (i : Nat) => (i : Int)) w (by simp) (by omega) (fun j hj => ?_)).mono ?_
    · have hj' : j < l.length := by simpa using hj
      rw [hc j _ (ints'_get hj')]
      simp [List.getD, hj']
    rintro e w' ⟨v', rfl, ho, -, hb⟩
    have e1 : ((l.map fun (i : Nat) => (i : Int)).take l.length).map (Value.int .i64) = ints' l := by
      rw [List.take_of_length_le (by simp), List.map_map]; rfl
    rw [e1] at ho
    exact ⟨v', rfl, ho, hb⟩
/-- the lists, one level on -/
def lvlN (m r k : Nat) : List (List Nat) := ((idxR m r 0).take k).flatMap (longer m 0)
theorem lvlN_all (m r : Nat) : lvlN m r (idxR m r 0).length = idxR m (r + 1) 0 := by
  unfold lvlN; rw [List.take_length, idxR_grow]
theorem lvlN_succ (m r k : Nat) (h : k < (idxR m r 0).length) : lvlN m r (k + 1) = lvlN m r k ++ longer m 0 (idxR m r 0)[k] := by
  unfold lvlN
  rw [List.take_succ_eq_append_getElem h, List.flatMap_append]
  simp
theorem lvlN_le (m r k : Nat) : (lvlN m r k).length ≤ cnt (r + 1) m := by
  rw [← idxR_cnt, ← lvlN_all]
  unfold lvlN
  rw [List.take_length]
  conv => rhs; rw [← List.take_append_drop k (idxR m r 0), List.flatMap_append, List.length_append]
  omega
def partN (l : List Nat) (d : Nat) : List (List Nat) := (List.range' (l.getLastD 0) d).map fun i => l ++ [i]
theorem partN_succ (l : List Nat) (d : Nat) : partN l (d + 1) = partN l d ++ [l ++ [l.getLastD 0 + d]] := by
  unfold partN
  rw [List.range'_concat, List.map_append]
  simp
theorem partN_all (m : Nat) (l : List Nat) : partN l (m - l.getLastD 0) = longer m 0 l := rfl
theorem lastD_mem : ∀ (l : List Nat) (d : Nat), l.getLastD d = d ∨ l.getLastD d ∈ l
  | [], _ => .inl rfl
  | x :: y, d => by
    rw [List.getLastD_cons]
    rcases lastD_mem y x with h | h
    · right; rw [h]; simp
    · right; exact List.mem_cons_of_mem _ h
theorem lastD_get : ∀ (l : List Nat) (p d : Nat) (h : l.length = p + 1), l[p]'(by omega) = l.getLastD d
  | [], p, _, h => by simp at h
  | x :: y, 0, d, h => by
    have : y = [] := List.eq_nil_of_length_eq_zero (by simpa using h)
    subst this; rfl
  | x :: y, p + 1, d, h => by
    rw [List.getLastD_cons, List.getElem_cons_succ]
    exact lastD_get y p x (by simpa using h)
theorem last_lt {m r : Nat} {l : List Nat} (h : l ∈ idxR m r 0) : l.getLastD 0 ≤ m := by
  rcases lastD_mem l 0 with h1 | h1
  · omega
  · have := (mem_idxR m r 0 l h).2 _ h1; omega
/-- rows of sessions in memory -/
def RepSL (w : World) (P : Nat → Prop) (L : List (List Ss)) (A : Option Addr) (cap : Nat) : Prop :=
  ∃ (itss : List (List Se)) (ivs : List Iv), ivs.map (·.1) = itss.map (·.flatMap seCells) ∧ itss.map (·.map (·.1)) = L ∧ (∀ x ∈ ivs, RepV w P 2 x.1 x.2.1 x.2.2.1 x.2.2.2) ∧
    (∀ l ∈ itss, ∀ x ∈ l, RepN w P x.1.2 x.2.1 x.2.2) ∧ RepV w P 1 (ivs.map ivVal) A L.length cap
/-- lists of sessions, and an error -/
def SessOf (w : World) (er : Int) (L : List (List Ss)) (e : Ending) (w' : World) : Prop :=
  ∃ A c, e = .returned (.tuple #[.slice A L.length c, .int .i64 er]) ∧ RepSL w' (fun b => b < w'.heap.size) L A c ∧ Below w.heap.size w w'
theorem RepSL.nil {w : World} {P : Nat → Prop} : RepSL w P [] none 0 := ⟨[], [], rfl, rfl, by simp, by simp, RepV.nil⟩
/-- the answer of Sessions -/
def sessEr (ags bad : List ByteArray) (roles n : Int) : Int :=
  if castE ags bad ≠ 0 then castE ags bad else if roles < 2 ∨ 4 < roles ∨ n < 1 ∨ 4 < n then 7 else sessE (allS ags bad roles.toNat roles.toNat).length n.toNat
def sessLs (ags bad : List ByteArray) (roles n : Int) : List (List Ss) :=
  if castE ags bad ≠ 0 then [] else if roles < 2 ∨ 4 < roles ∨ n < 1 ∨ 4 < n then [] else sessL (allS ags bad roles.toNat roles.toNat) n.toNat
end Go.Proofs.YtpjmdilpldaapaaDoor
