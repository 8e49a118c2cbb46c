/- subst.Fits, and the reference's leaf and Fits. -/
import Derived.Test.YtipmibjhlpnhjaaGreatDoorSplain
import Derived.Test.YtipmibjhlpnhjaaGreatDoorGe
namespace Go.Proofs.YtipmibjhlpnhjaaGreatDoor
open Go.RowKit Go.Sort

def boxT (t : Tm) (A : Option Addr) (c : Nat) : Obj := .cells #[.int .i64 t.kind, .string t.name, .int .i64 t.sort, .slice A t.kids.length c] 24
theorem boxT_heap (t : Tm) (A : Option Addr) (c : Nat) : boxT t A c = .cells #[.int .i64 t.kind, .string t.name, .int .i64 t.sort, .slice A t.kids.length c] 24 (0, 0) := rfl
/-- two terms in blocks of their own, the last two -/
structure Two (w : World) (x t : Tm) (A A' : Option Addr) (c c' : Nat) (V : World) : Prop where
  lay : Lay w.heap.size w V
  one : V.heap[w.heap.size]? = some (.cells #[.int .i64 x.kind, .string x.name, .int .i64 x.sort, .slice A x.kids.length c] 24 (0, 0))
  two : V.heap[w.heap.size + 1]? = some (.cells #[.int .i64 t.kind, .string t.name, .int .i64 t.sort, .slice A' t.kids.length c'] 24 (0, 0))
theorem Two.new (w : World) (x t : Tm) (A A' : Option Addr) (c c' : Nat) : Two w x t A A' c c' ((w.alloc (boxT x A c)).alloc (boxT t A' c')) := by
  have l1 : Lay w.heap.size w (w.alloc (boxT x A c)) := (Lay.refl _ _).alloc (Nat.le_refl _) _
  have s1 : (w.alloc (boxT x A c)).heap.size = w.heap.size + 1 := by simp
  have l2 : Lay (w.alloc (boxT x A c)).heap.size (w.alloc (boxT x A c)) ((w.alloc (boxT x A c)).alloc (boxT t A' c')) := (Lay.refl _ _).alloc (Nat.le_refl _) _
  refine ⟨l1.trans (l2.mono (by omega)), ?_, ?_⟩
  · rw [l2.below.block _ (by omega)]; exact heap_alloc_new _ _
  · rw [← s1]; exact heap_alloc_new _ _
theorem Two.lt {w V : World} {x t : Tm} {A A' : Option Addr} {c c' : Nat} (h : Two w x t A A' c c' V) : w.heap.size + 1 < V.heap.size := (Array.getElem?_eq_some_iff.1 h.two).1
theorem Two.go {w V W : World} {x t : Tm} {A A' : Option Addr} {c c' : Nat} (h : Two w x t A A' c c' V) (hl : Lay V.heap.size V W) : Two w x t A A' c c' W :=
  ⟨h.lay.trans (hl.mono (by have := h.lt; omega)), (hl.below.block _ (by have := h.lt; omega)).trans h.one, (hl.below.block _ h.lt).trans h.two⟩

theorem eq_facts (a b : Int) : (a = b ∧ (a == b) = true ∧ (a != b) = false) ∨ (a ≠ b ∧ (a == b) = false ∧ (a != b) = true) := by
  by_cases h : a = b
  · left; subst h; exact ⟨rfl, by simp, by simp⟩
  · right; exact ⟨h, by rw [beq_eq_false_iff_ne]; exact h, by simp [h]⟩

set_option maxHeartbeats 4000000 in
set_option maxRecDepth 100000 in
theorem fits_any (x t : Tm) (A A' : Option Addr) (c c' : Nat) (w : World) (hx : x.size ≤ 1000000) (ht : t.size ≤ 1000000) (hrx : RepT w w.heap.size x A c) (hrt : RepT w w.heap.size t A' c') :
    Calls Tryz.prog 97 #[x.val A c, t.val A' c'] w fun e w' => e = .returned (.bool (fits x t)) ∧ Lay w.heap.size w w' := by
  obtain ⟨V, hV⟩ : ∃ V, V = (w.alloc (boxT x A c)).alloc (boxT t A' c') := ⟨_, rfl⟩
  have h2 : Two w x t A A' c c' V := by rw [hV]; exact Two.new _ _ _ _ _ _ _
  have VX : Hid (∀ Z, Lay w.heap.size w Z → Calls Tryz.prog 53 #[x.val A c] Z fun e w' => e = .returned (.int .i64 x.valid) ∧ Lay Z.heap.size Z w') := Lib.hid fun Z h => valid_any x A c Z hx (hrx.go h.below h.size)
  have VT : Hid (∀ Z, Lay w.heap.size w Z → Calls Tryz.prog 53 #[t.val A' c'] Z fun e w' => e = .returned (.int .i64 t.valid) ∧ Lay Z.heap.size Z w') := Lib.hid fun Z h => valid_any t A' c' Z ht (hrt.go h.below h.size)
  obtain ⟨vx, hvx⟩ : ∃ v, v = x.valid := ⟨_, rfl⟩
  obtain ⟨vt, hvt⟩ : ∃ v, v = t.valid := ⟨_, rfl⟩
  rw [← hvx] at VX
  rw [← hvt] at VT
  obtain ⟨r, hr⟩ : ∃ r, r = fits x t := ⟨_, rfl⟩
  rw [← hr]
  unfold fits at hr
  rw [← hvx, ← hvt] at hr
  clear hvx hvt
  have HR := Lib.hid hr; clear hr
  simp only [boxT] at hV
  have HV := Lib.hid hV; clear hV
  have H2 := Lib.hid h2; clear h2
  have CON := Lib.hid (VX.out V H2.out.lay); clear VX
  simp only [Tm.val] at CON VT ⊢
  go_enter Tryz.func97, Tryz.ntmps97
  go_wp2_with fail
  rw [← HV.out]
  refine CON.out.mono ?_; clear CON HV
  rintro e w1 ⟨rfl, hl1⟩
  have H21 := Lib.hid (H2.out.go hl1); clear H2 hl1
  obtain ⟨a0, a1, a2, a3, -⟩ := box_at H21.out.one
  obtain ⟨b0, b1, b2, b3, -⟩ := box_at H21.out.two
  rcases eq_facts vx 0 with ⟨h0, e0, n0⟩ | ⟨h0, e0, n0⟩
  · subst h0
    have CON := Lib.hid (VT.out w1 H21.out.lay)
    go_wp2_with fail
    refine CON.out.mono ?_; clear CON a0 a1 a2 a3 b0 b1 b2 b3 VT
    rintro e w2 ⟨rfl, hl2⟩
    have H22 := Lib.hid (H21.out.go hl2); clear H21 hl2
    obtain ⟨a0, a1, a2, a3, -⟩ := box_at H22.out.one
    obtain ⟨b0, b1, b2, b3, -⟩ := box_at H22.out.two
    rcases eq_facts vt 0 with ⟨h1, e1, n1⟩ | ⟨h1, e1, n1⟩
    · subst h1
      rcases eq_facts x.kind 1 with ⟨h2, e2, n2⟩ | ⟨h2, e2, n2⟩
      · rcases eq_facts x.sort 0 with ⟨h3, e3, n3⟩ | ⟨h3, e3, n3⟩
        · have hr : r = true := by rw [HR.out]; simp [h2, h3]
          subst hr
          clear HR
          rw [h2] at a0
          rw [h3] at a2
          clear h2 h3 e2 n2 e3 n3
          go_wp2_with fail
          go_ret
          exact ⟨rfl, H22.out.lay⟩
        · rcases eq_facts t.kind 3 with ⟨h4, e4, n4⟩ | ⟨h4, e4, n4⟩
          · have hr : r = false := by rw [HR.out]; simp [h3, h4]
            subst hr
            clear HR
            rw [h2] at a0
            clear h2 h3 e2 n2 h4
            go_wp2_with fail
            go_ret
            exact ⟨rfl, H22.out.lay⟩
          · rcases eq_facts t.sort x.sort with ⟨h5, e5, n5⟩ | ⟨h5, e5, n5⟩
            · have hr : r = true := by rw [HR.out]; simp [h2, h4, h5]
              subst hr
              clear HR
              rw [h2] at a0
              clear h2 h3 e2 n2 h4 h5
              go_wp2_with fail
              go_ret
              exact ⟨rfl, H22.out.lay⟩
            · have hr : r = false := by rw [HR.out]; simp [h3, h5]
              subst hr
              clear HR
              rw [h2] at a0
              clear h2 h3 e2 n2 h4 h5
              go_wp2_with fail
              go_ret
              exact ⟨rfl, H22.out.lay⟩
      · have hr : r = false := by rw [HR.out]; simp [h2]
        subst hr
        clear HR h2
        go_wp2_with fail
        go_ret
        exact ⟨rfl, H22.out.lay⟩
    · have hr : r = false := by rw [HR.out]; simp [h1]
      subst hr
      clear HR h1
      go_wp2_with fail
      go_ret
      exact ⟨rfl, H22.out.lay⟩
  · have hr : r = false := by rw [HR.out]; simp [h0]
    subst hr
    clear HR h0
    go_wp2_with fail
    go_ret
    exact ⟨rfl, H21.out.lay⟩

set_option maxHeartbeats 4000000 in
set_option maxRecDepth 100000 in
theorem rleafs_any (t : Tm) (A' : Option Addr) (c' : Nat) (so : Int) (w : World) :
    Calls Tryz.prog 184 #[t.val A' c', .int .i64 so] w fun e w' => e = .returned (.bool ((decide (t.kind = 1) || decide (t.kind = 2)) && decide (t.sort = so))) ∧ Lay w.heap.size w w' := by
  obtain ⟨r, hr⟩ : ∃ r, r = ((decide (t.kind = 1) || decide (t.kind = 2)) && decide (t.sort = so)) := ⟨_, rfl⟩
  rw [← hr]
  have HR := Lib.hid hr; clear hr
  have HL : Hid (∀ o, Lay w.heap.size w (w.alloc o)) := fun o => (Lay.refl _ _).alloc (Nat.le_refl _) o
  simp only [Tm.val]
  rcases eq_facts t.kind 1 with ⟨h1, e1, n1⟩ | ⟨h1, e1, n1⟩
  · rcases eq_facts t.sort so with ⟨h3, e3, n3⟩ | ⟨h3, e3, n3⟩
    · have hr : r = true := by rw [HR.out]; simp [h1, h3]
      subst hr
      clear HR h1 h3 n1 n3
      go_enter Tryz.func184, Tryz.ntmps184
      go_wp2_with fail
      go_ret
      exact ⟨rfl, HL.out _⟩
    · have hr : r = false := by rw [HR.out]; simp [h3]
      subst hr
      clear HR h1 h3 n1 n3
      go_enter Tryz.func184, Tryz.ntmps184
      go_wp2_with fail
      go_ret
      exact ⟨rfl, HL.out _⟩
  · rcases eq_facts t.kind 2 with ⟨h2, e2, n2⟩ | ⟨h2, e2, n2⟩
    · rcases eq_facts t.sort so with ⟨h3, e3, n3⟩ | ⟨h3, e3, n3⟩
      · have hr : r = true := by rw [HR.out]; simp [h2, h3]
        subst hr
        clear HR h1 h2 h3 n1 n2 n3
        go_enter Tryz.func184, Tryz.ntmps184
        go_wp2_with fail
        go_ret
        exact ⟨rfl, HL.out _⟩
      · have hr : r = false := by rw [HR.out]; simp [h3]
        subst hr
        clear HR h1 h2 h3 n1 n2 n3
        go_enter Tryz.func184, Tryz.ntmps184
        go_wp2_with fail
        go_ret
        exact ⟨rfl, HL.out _⟩
    · have hr : r = false := by rw [HR.out]; simp [h1, h2]
      subst hr
      clear HR h1 h2 n1 n2
      go_enter Tryz.func184, Tryz.ntmps184
      go_wp2_with fail
      go_ret
      exact ⟨rfl, HL.out _⟩

theorem kind_valid {t : Tm} (h : t.valid = 0) : t.kind = 1 ∨ t.kind = 2 ∨ t.kind = 3 := by
  have hc : t.check = 0 := by
    unfold Tm.valid at h
    split at h
    · exact h
    · rename_i h1; omega
  obtain ⟨k, n, s, l⟩ := t
  by_cases hk : k = 1 ∨ k = 2
  · rcases hk with h | h
    · exact .inl h
    · exact .inr (.inl h)
  · rw [Tm.check, if_neg hk] at hc
    split at hc
    · rename_i h3; exact .inr (.inr h3)
    · omega

set_option maxHeartbeats 4000000 in
set_option maxRecDepth 100000 in
theorem rfits_any (x t : Tm) (A A' : Option Addr) (c c' : Nat) (w : World) (hx : x.size ≤ 1000000) (ht : t.size ≤ 1000000) (hrx : RepT w w.heap.size x A c) (hrt : RepT w w.heap.size t A' c') :
    Calls Tryz.prog 151 #[x.val A c, t.val A' c'] w fun e w' => e = .returned (.bool (fits x t)) ∧ Lay w.heap.size w w' := by
  obtain ⟨V, hV⟩ : ∃ V, V = (w.alloc (boxT x A c)).alloc (boxT t A' c') := ⟨_, rfl⟩
  have h2 : Two w x t A A' c c' V := by rw [hV]; exact Two.new _ _ _ _ _ _ _
  have VX : Hid (∀ Z, Lay w.heap.size w Z → Calls Tryz.prog 38 #[x.val A c] Z fun e w' => e = .returned (.int .i64 x.valid) ∧ Lay Z.heap.size Z w') := Lib.hid fun Z h => rvalid_any x A c Z hx (hrx.go h.below h.size)
  have VT : Hid (∀ Z, Lay w.heap.size w Z → Calls Tryz.prog 38 #[t.val A' c'] Z fun e w' => e = .returned (.int .i64 t.valid) ∧ Lay Z.heap.size Z w') := Lib.hid fun Z h => rvalid_any t A' c' Z ht (hrt.go h.below h.size)
  obtain ⟨vx, hvx⟩ : ∃ v, v = x.valid := ⟨_, rfl⟩
  obtain ⟨vt, hvt⟩ : ∃ v, v = t.valid := ⟨_, rfl⟩
  rw [← hvx] at VX
  rw [← hvt] at VT
  have LF := Lib.hid (rleafs_any t A' c')
  obtain ⟨r, hr⟩ : ∃ r, r = fits x t := ⟨_, rfl⟩
  rw [← hr]
  unfold fits at hr
  rw [← hvx, ← hvt] at hr
  have HVT := Lib.hid hvt; clear hvx hvt
  have HR := Lib.hid hr; clear hr
  simp only [boxT] at hV
  have HV := Lib.hid hV; clear hV
  have H2 := Lib.hid h2; clear h2
  have CON := Lib.hid (VX.out V H2.out.lay); clear VX
  simp only [Tm.val] at CON VT LF ⊢
  go_enter Tryz.func151, Tryz.ntmps151
  go_wp2_with fail
  rw [← HV.out]
  refine CON.out.mono ?_; clear CON HV
  rintro e w1 ⟨rfl, hl1⟩
  have H21 := Lib.hid (H2.out.go hl1); clear H2 hl1
  obtain ⟨a0, a1, a2, a3, -⟩ := box_at H21.out.one
  obtain ⟨b0, b1, b2, b3, -⟩ := box_at H21.out.two
  rcases eq_facts vx 0 with ⟨h0, e0, n0⟩ | ⟨h0, e0, n0⟩
  · subst h0
    rcases eq_facts x.kind 1 with ⟨h2, e2, n2⟩ | ⟨h2, e2, n2⟩
    · have CON := Lib.hid (VT.out w1 H21.out.lay)
      rw [h2] at a0
      go_wp2_with fail
      refine CON.out.mono ?_; clear CON a0 a1 a2 a3 b0 b1 b2 b3 VT
      rintro e w2 ⟨rfl, hl2⟩
      have H22 := Lib.hid (H21.out.go hl2); clear H21 hl2
      obtain ⟨a0, a1, a2, a3, -⟩ := box_at H22.out.one
      obtain ⟨b0, b1, b2, b3, -⟩ := box_at H22.out.two
      rcases eq_facts vt 0 with ⟨h1, e1, n1⟩ | ⟨h1, e1, n1⟩
      · subst h1
        have hk := kind_valid HVT.out.symm
        rcases eq_facts x.sort 0 with ⟨h3, e3, n3⟩ | ⟨h3, e3, n3⟩
        · have hr : r = true := by rw [HR.out]; simp [h2, h3]
          subst hr
          rw [h3] at a2
          clear HR h2 h3 e2 n2 e3 n3 hk
          go_wp2_with fail
          go_ret
          exact ⟨rfl, H22.out.lay⟩
        · have hr : r = ((decide (t.kind = 1) || decide (t.kind = 2)) && decide (t.sort = x.sort)) := by
            rw [HR.out]
            have e4 : decide (t.kind ≠ 3) = (decide (t.kind = 1) || decide (t.kind = 2)) := by
              rcases hk with h | h | h <;> simp [h]
            rw [e4]; simp [h2, h3]
          have CON := LF.out x.sort w2
          rw [← hr] at CON
          have CON := Lib.hid CON
          clear HR h2 h3 e2 n2 hk hr LF
          go_wp2_with fail
          refine CON.out.mono ?_
          rintro e w3 ⟨rfl, hl3⟩
          have H23 := Lib.hid (H22.out.go hl3); clear hl3
          go_wp2_with fail
          go_ret
          exact ⟨rfl, H23.out.lay⟩
      · have hr : r = false := by rw [HR.out]; simp [h1]
        subst hr
        clear HR h1
        go_wp2_with fail
        go_ret
        exact ⟨rfl, H22.out.lay⟩
    · have hr : r = false := by rw [HR.out]; simp [h2]
      subst hr
      clear HR h2
      go_wp2_with fail
      go_ret
      exact ⟨rfl, H21.out.lay⟩
  · have hr : r = false := by rw [HR.out]; simp [h0]
    subst hr
    clear HR h0
    go_wp2_with fail
    go_ret
    exact ⟨rfl, H21.out.lay⟩
end Go.Proofs.YtipmibjhlpnhjaaGreatDoor
