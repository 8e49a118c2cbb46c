/- cast.remains, and what an instance's walk rests on. -/
import Derived.Test.YtpjmdilpldaapaaDoorCiplain
import Derived.Test.YtpjmdilpldaapaaDoorCterm
import Derived.Test.YtpjmdilpldaapaaDoorUmix5
import Derived.Test.YtpjmdilpldaapaaDoorGh
import Derived.OwnWalk
namespace Go.Proofs.YtpjmdilpldaapaaDoor
open Go.RowKit Go.Sort

theorem check_parts {k s : Int} {n : ByteArray} {l : List Tm} (h : (Tm.mk k n s l).check = 0) : n.size ≤ 24 ∧ ∀ u ∈ l, u.check = 0 := by
  have hnm : nameL n.data.toList = true → n.size ≤ 24 := fun h => by
    unfold nameL at h
    simp only [Bool.and_eq_true, decide_eq_true_eq] at h
    have := h.1.1
    show n.data.size ≤ 24
    rw [Array.length_toList] at this
    exact this
  have hcs : ∀ l : List Tm, Tm.checks l = 0 → ∀ u ∈ l, u.check = 0 := by
    intro l
    induction l with
    | nil => simp
    | cons t r ih =>
      intro h u hu
      rw [Tm.checks] at h
      have ht : t.check = 0 := Classical.byContradiction fun e => by rw [if_pos e] at h; exact e h
      rw [if_neg (by rw [ht]; simp)] at h
      rcases List.mem_cons.1 hu with rfl | hu
      · exact ht
      · exact ih h u hu
  rw [Tm.check] at h
  split at h
  · split at h
    · cases h
    · rename_i h1
      split at h
      · cases h
      · rename_i h2
        have hl : l = [] := Classical.byContradiction fun e => h1 (.inr (.inr e))
        subst hl
        exact ⟨hnm (by simpa using h2), by simp⟩
  · split at h
    · split at h
      · cases h
      · split at h
        · cases h
        · rename_i h2
          split at h
          · cases h
          · exact ⟨hnm (by simpa using h2), hcs l h⟩
    · cases h

set_option maxHeartbeats 2000000 in
set_option maxRecDepth 100000 in
theorem remains_any (k s : Int) (n : ByteArray) (A : Option Addr) (m cap : Nat) (w : World) :
    Calls Tryd.prog 78 #[.agg #[.int .i64 k, .string n, .int .i64 s, .slice A m cap]] w fun e w' => e = .returned (.bool (remB n s)) ∧ Lay w.heap.size w w' := by
  obtain ⟨W0, hW0⟩ : ∃ W0, W0 = w.alloc (.cells #[.int .i64 k, .string n, .int .i64 s, .slice A m cap] 35) := ⟨_, rfl⟩
  have hl0 : Lay w.heap.size w W0 := by rw [hW0]; exact (Lay.refl _ _).alloc (Nat.le_refl _) _
  have hx0 : W0.heap[w.heap.size]? = some (.cells #[.int .i64 k, .string n, .int .i64 s, .slice A m cap] 35 (0, 0)) := by rw [hW0]; exact heap_alloc_new _ _
  obtain ⟨b0, b1, b2, b3, -⟩ := box_at hx0
  have HL0 := Lib.hid hl0; have HW0 := Lib.hid hW0
  clear hl0 hW0 hx0
  have HH := Lib.hid (hashN n W0)
  obtain ⟨r, hr⟩ : ∃ r, r = remB n s := ⟨_, rfl⟩
  rw [← hr]
  unfold remB at hr
  have HR := Lib.hid hr; clear hr
  by_cases h1 : s = 1
  · subst h1
    have hr : r = true := by rw [HR.out]; rfl
    subst hr
    clear HR
    go_enter Tryd.func78, Tryd.ntmps78
    go_wp2_with fail
    go_ret
    exact ⟨rfl, by have := HL0.out; rw [HW0.out] at this; exact this⟩
  by_cases h5 : s = 5
  · subst h5
    have hr : r = true := by rw [HR.out]; rfl
    subst hr
    clear HR h1
    go_enter Tryd.func78, Tryd.ntmps78
    go_wp2_with fail
    go_ret
    exact ⟨rfl, by have := HL0.out; rw [HW0.out] at this; exact this⟩
  have e1 : (s == 1) = false := by rw [beq_eq_false_iff_ne]; exact h1
  have e5 : (s == 5) = false := by rw [beq_eq_false_iff_ne]; exact h5
  have HR2 : Hid (r = (hashB n || (decide (n = ⟨#[103]⟩) && decide (s = 4)))) := by show _ = _; rw [HR.out, decide_eq_false h1, decide_eq_false h5]; rfl
  clear HR h1 h5
  cases hh : hashB n with
  | true =>
    rw [hh] at HH HR2
    have hr : r = true := HR2.out
    subst hr
    clear HR2 hh
    go_enter Tryd.func78, Tryd.ntmps78
    go_wp2_with fail
    rw [← HW0.out]
    refine HH.out.mono ?_
    rintro e w1 ⟨rfl, rfl⟩
    go_wp2_with fail
    go_ret
    exact ⟨rfl, HL0.out⟩
  | false =>
    rw [hh] at HH HR2
    rw [Bool.false_or] at HR2
    clear hh
    by_cases hg : n = ⟨#[103]⟩
    · rw [decide_eq_true hg, Bool.true_and] at HR2
      have hb2 : n.toList = [103] := by rw [hg, ByteArray.toList_eq]
      have hb : (n.toList == [103]) = true := by rw [beq_iff_eq]; exact hb2
      clear hg
      by_cases h4 : s = 4
      · subst h4
        have hr : r = true := HR2.out
        subst hr
        clear HR2 e1 e5
        go_enter Tryd.func78, Tryd.ntmps78
        go_wp2_with fail
        rw [← HW0.out]
        refine HH.out.mono ?_
        rintro e w1 ⟨rfl, rfl⟩
        go_wp2_with fail
        go_ret
        exact ⟨rfl, HL0.out⟩
      · have e4 : (s == 4) = false := by rw [beq_eq_false_iff_ne]; exact h4
        have hr : r = false := by rw [HR2.out, decide_eq_false h4]
        subst hr
        clear HR2 h4
        go_enter Tryd.func78, Tryd.ntmps78
        go_wp2_with fail
        rw [← HW0.out]
        refine HH.out.mono ?_
        rintro e w1 ⟨rfl, rfl⟩
        go_wp2_with fail
        go_ret
        exact ⟨rfl, HL0.out⟩
    · rw [decide_eq_false hg, Bool.false_and] at HR2
      have hne : n.toList ≠ [103] := fun h => hg (ByteArray.ext (Array.toList_inj.1 (by rw [← ByteArray.toList_eq]; exact h)))
      have hb : (n.toList == [103]) = false := by rw [beq_eq_false_iff_ne]; exact hne
      have hr : r = false := HR2.out
      subst hr
      clear HR2 hg
      go_enter Tryd.func78, Tryd.ntmps78
      go_wp2_with fail
      rw [← HW0.out]
      refine HH.out.mono ?_
      rintro e w1 ⟨rfl, rfl⟩
      go_wp2_with fail
      go_ret
      exact ⟨rfl, HL0.out⟩
theorem zero_cells4 (n : Nat) : (madeCells (Value.agg #[.int .i64 0, .string ⟨#[]⟩, .int .i64 0, .slice none 0 0]).cells (n * 4)).toList = itCells (List.replicate n ((Tm.mk 0 ⟨#[]⟩ 0 [], none, 0) : It)) := by
  have hz : (Value.agg #[.int .i64 0, .string ⟨#[]⟩, .int .i64 0, .slice none 0 0]).cells = #[.int .i64 0, .string ⟨#[]⟩, .int .i64 0, .slice none 0 0] := rfl
  rw [hz]
  refine List.ext_getElem? fun j => ?_
  by_cases hj : j < n * 4
  · obtain ⟨i, r, hr, rfl⟩ : ∃ i r, r < 4 ∧ j = i * 4 + r := ⟨j / 4, j % 4, Nat.mod_lt _ (by decide), by omega⟩
    have g := itCells_get (List.replicate n ((Tm.mk 0 ⟨#[]⟩ 0 [], none, 0) : It)) i (by rw [List.length_replicate]; omega)
    simp only [List.getElem_replicate] at g
    obtain ⟨g0, g1, g2, g3⟩ := g
    have e : ∀ z : Array Value, z.size = 4 → (madeCells z (n * 4)).toList[i * 4 + r]? = some (z[r]!) := fun z hz => by
      have : (i * 4 + r) % 4 = r := by omega
      simp [madeCells, hz, hj, this]
    rw [e _ rfl]
    match r, hr with
    | 0, _ => exact g0.symm
    | 1, _ => exact g1.symm
    | 2, _ => exact g2.symm
    | 3, _ => exact g3.symm
  · rw [List.getElem?_eq_none (by simp [madeCells]; omega), List.getElem?_eq_none (by rw [itCells_length, List.length_replicate]; omega)]
/-- make([]Term, n), at a bare operation -/
theorem wp_make_terms {w : World} {o : Oper} {a : Act} {K : Act → World → Prop} {Q : Exit → Act → World → Prop} (l c : Operand) (hop : o.op = Op.makeSlice 33 l c) (n : Nat)
    (hl : a.eval l = .int .i64 n) (hc : a.eval c = .int .i64 n) (hn : n ≤ 1000000)
    (hK : ∀ w', RowT w' w.heap.size (fun b => w.heap.size ≤ b) (.slice (some ⟨w.heap.size, 0, none⟩) n n) (List.replicate n ((Tm.mk 0 ⟨#[]⟩ 0 [], none, 0) : It)) → Below w.heap.size w w' → K (a.put o.dst (.slice (some ⟨w.heap.size, 0, none⟩) n n)) w') :
    Oper.wp Tryd.prog o a w K Q := by
  obtain ⟨i0, hi0, hz0, hz1, hz2⟩ := info_parts termInfo
  obtain ⟨w', hrun, r1, r2⟩ := run_make_full (P := Tryd.prog) w w.heap.size 33 35 i0 _ 4 Tryd.underlying33 hi0 hz0 hz1 .i64 .i64 n (by rw [hz2]; omega) (by unfold maxLen; omega) (Nat.le_refl _)
  unfold Oper.wp
  simp [execOp, hop, hl, hc, hrun, Result.andThen]
  refine hK w' ⟨?_, fun x hx => ?_⟩ ((Below.refl w.heap.size w).grown r2 (Nat.le_refl _) (fun j e => by cases e))
  · rw [List.length_replicate, ← zero_cells4]; exact r1
  · obtain rfl := List.eq_of_mem_replicate hx
    rw [RepP_mk]; exact ⟨by decide, Nat.le_refl _, Nat.zero_le _, .inl rfl⟩
end Go.Proofs.YtpjmdilpldaapaaDoor
