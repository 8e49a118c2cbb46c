/- The reference's binding: the error of a binding. -/
import Derived.Test.YtipmibjhlpnhjaaGreatDoorSfits
namespace Go.Proofs.YtipmibjhlpnhjaaGreatDoor
open Go.RowKit Go.Sort

/-- a binding's cells -/
def bcells (b : Bd) (A : Option Addr) (c : Nat) (A' : Option Addr) (c' : Nat) : Array Value :=
  #[.int .i64 b.1.kind, .string b.1.name, .int .i64 b.1.sort, .slice A b.1.kids.length c, .int .i64 b.2.kind, .string b.2.name, .int .i64 b.2.sort, .slice A' b.2.kids.length c']
def bval (b : Bd) (A : Option Addr) (c : Nat) (A' : Option Addr) (c' : Nat) : Value := .agg (bcells b A c A' c')
theorem eight_at {W : World} {B : Nat} {a0 a1 a2 a3 a4 a5 a6 a7 : Value} {T : TypeId} (h : W.heap[B]? = some (.cells #[a0, a1, a2, a3, a4, a5, a6, a7] T (0, 0))) :
    W.cell? ⟨B, 0, none⟩ = some a0 ∧ W.cell? ⟨B, 1, none⟩ = some a1 ∧ W.cell? ⟨B, 2, none⟩ = some a2 ∧ W.cell? ⟨B, 3, none⟩ = some a3 ∧
    W.cell? ⟨B, 4, none⟩ = some a4 ∧ W.cell? ⟨B, 5, none⟩ = some a5 ∧ W.cell? ⟨B, 6, none⟩ = some a6 ∧ W.cell? ⟨B, 7, none⟩ = some a7 := by
  refine ⟨?_, ?_, ?_, ?_, ?_, ?_, ?_, ?_⟩ <;> simp [World.cell?, h]
/-- a binding in a block of its own, the last one -/
structure Bx (w : World) (b : Bd) (A : Option Addr) (c : Nat) (A' : Option Addr) (c' : Nat) (V : World) : Prop where
  lay : Lay w.heap.size w V
  box : V.heap[w.heap.size]? = some (.cells #[.int .i64 b.1.kind, .string b.1.name, .int .i64 b.1.sort, .slice A b.1.kids.length c, .int .i64 b.2.kind, .string b.2.name, .int .i64 b.2.sort, .slice A' b.2.kids.length c'] 53 (0, 0))
theorem Bx.new (w : World) (b : Bd) (A : Option Addr) (c : Nat) (A' : Option Addr) (c' : Nat) :
    Bx w b A c A' c' (w.alloc (.cells #[.int .i64 b.1.kind, .string b.1.name, .int .i64 b.1.sort, .slice A b.1.kids.length c, .int .i64 b.2.kind, .string b.2.name, .int .i64 b.2.sort, .slice A' b.2.kids.length c'] 53)) :=
  ⟨(Lay.refl _ _).alloc (Nat.le_refl _) _, heap_alloc_new _ _⟩
theorem Bx.lt {w V : World} {b : Bd} {A A' : Option Addr} {c c' : Nat} (h : Bx w b A c A' c' V) : w.heap.size < V.heap.size := (Array.getElem?_eq_some_iff.1 h.box).1
theorem Bx.go {w V W : World} {b : Bd} {A A' : Option Addr} {c c' : Nat} (h : Bx w b A c A' c' V) (hl : Lay V.heap.size V W) : Bx w b A c A' c' W :=
  ⟨h.lay.trans (hl.mono (by have := h.lt; omega)), (hl.below.block _ h.lt).trans h.box⟩

set_option maxHeartbeats 4000000 in
set_option maxRecDepth 100000 in
theorem rbinding_any (b : Bd) (A A' : Option Addr) (c c' : Nat) (w : World) (hx : b.1.size ≤ 1000000) (ht : b.2.size ≤ 1000000) (hrx : RepT w w.heap.size b.1 A c) (hrt : RepT w w.heap.size b.2 A' c') :
    Calls Tryz.prog 115 #[bval b A c A' c'] w fun e w' => e = .returned (.int .i64 (bindE b)) ∧ Lay w.heap.size w w' := by
  obtain ⟨x, t⟩ := b
  obtain ⟨V, hV⟩ : ∃ V, V = w.alloc (.cells #[.int .i64 x.kind, .string x.name, .int .i64 x.sort, .slice A x.kids.length c, .int .i64 t.kind, .string t.name, .int .i64 t.sort, .slice A' t.kids.length c'] 53) := ⟨_, rfl⟩
  have hB : Bx w (x, t) A c A' c' V := by rw [hV]; exact Bx.new w (x, t) A c A' c'
  have VX : Hid (∀ Z, Lay w.heap.size w Z → Calls Tryz.prog 38 #[x.val A c] Z fun e w' => e = .returned (.int .i64 x.valid) ∧ Lay Z.heap.size Z w') := Lib.hid fun Z h => rvalid_any x A c Z hx (hrx.go h.below h.size)
  have VT : Hid (∀ Z, Lay w.heap.size w Z → Calls Tryz.prog 38 #[t.val A' c'] Z fun e w' => e = .returned (.int .i64 t.valid) ∧ Lay Z.heap.size Z w') := Lib.hid fun Z h => rvalid_any t A' c' Z ht (hrt.go h.below h.size)
  have SM : Hid (∀ Z, Lay w.heap.size w Z → Calls Tryz.prog 17 #[x.val A c, t.val A' c'] Z fun e w' => e = .returned (.bool (decide (x = t))) ∧ Lay Z.heap.size Z w') := Lib.hid fun Z h => by
    have := rsame_any x t A A' c c' Z hx ht (hrx.go h.below h.size) (hrt.go h.below h.size)
    have e : x.same t = decide (x = t) := by rw [Bool.eq_iff_iff, Tm.same_iff, decide_eq_true_iff]
    rw [e] at this; exact this
  have FT : Hid (∀ Z, Lay w.heap.size w Z → Calls Tryz.prog 151 #[x.val A c, t.val A' c'] Z fun e w' => e = .returned (.bool (fits x t)) ∧ Lay Z.heap.size Z w') := Lib.hid fun Z h => rfits_any x t A A' c c' Z hx ht (hrx.go h.below h.size) (hrt.go h.below h.size)
  obtain ⟨r, hr⟩ : ∃ r, r = bindE (x, t) := ⟨_, rfl⟩
  rw [← hr]
  unfold bindE at hr
  simp only at hr
  obtain ⟨vx, hvx⟩ : ∃ v, v = x.valid := ⟨_, rfl⟩
  obtain ⟨vt, hvt⟩ : ∃ v, v = t.valid := ⟨_, rfl⟩
  obtain ⟨ft, hft⟩ : ∃ v, v = fits x t := ⟨_, rfl⟩
  rw [← hvx] at VX hr
  rw [← hvt] at VT hr
  rw [← hft] at FT hr
  clear hvx hvt hft
  have HR := Lib.hid hr; clear hr
  have HV := Lib.hid hV; clear hV
  have HB := Lib.hid hB; clear hB
  have CON := Lib.hid (VX.out V HB.out.lay); clear VX
  simp only [Tm.val] at CON VT SM FT
  simp only [bval, bcells]
  go_enter Tryz.func115, Tryz.ntmps115
  go_wp2_with fail
  rw [← HV.out]
  refine CON.out.mono ?_; clear CON HV
  rintro e w1 ⟨rfl, hl1⟩
  have HB1 := Lib.hid (HB.out.go hl1); clear HB hl1
  obtain ⟨a0, a1, a2, a3, b0, b1, b2, b3⟩ := eight_at HB1.out.box
  rcases eq_facts vx 0 with ⟨h0, e0, n0⟩ | ⟨h0, e0, n0⟩
  · subst h0
    rcases eq_facts x.kind 1 with ⟨h1, e1, n1⟩ | ⟨h1, e1, n1⟩
    · have CON := SM.out w1 HB1.out.lay
      by_cases hxt : x = t
      · have hr : r = 1 := by rw [HR.out, if_neg (by simp), if_pos (.inr hxt)]
        rw [decide_eq_true hxt] at CON
        have CON := Lib.hid CON
        subst hr
        clear HR hxt h1
        go_wp2_with fail
        refine CON.out.mono ?_
        rintro e w2 ⟨rfl, hl2⟩
        have HB2 := Lib.hid (HB1.out.go hl2); clear hl2
        go_wp2_with fail
        go_ret
        exact ⟨rfl, HB2.out.lay⟩
      · have HR2 := Lib.hid (HR.out.trans ((if_neg (by simp)).trans (if_neg (by rintro (h | h); exact h h1; exact hxt h)))); clear HR
        rw [decide_eq_false hxt] at CON
        have CON := Lib.hid CON
        clear hxt h1
        go_wp2_with fail
        refine CON.out.mono ?_; clear CON a0 a1 a2 a3 b0 b1 b2 b3
        rintro e w2 ⟨rfl, hl2⟩
        have HB2 := Lib.hid (HB1.out.go hl2); clear hl2 HB1
        obtain ⟨a0, a1, a2, a3, b0, b1, b2, b3⟩ := eight_at HB2.out.box
        have CON := Lib.hid (VT.out w2 HB2.out.lay)
        go_wp2_with fail
        refine CON.out.mono ?_; clear CON a0 a1 a2 a3 b0 b1 b2 b3
        rintro e w3 ⟨rfl, hl3⟩
        have HB3 := Lib.hid (HB2.out.go hl3); clear hl3 HB2
        obtain ⟨a0, a1, a2, a3, b0, b1, b2, b3⟩ := eight_at HB3.out.box
        rcases eq_facts vt 0 with ⟨h2, e2, n2⟩ | ⟨h2, e2, n2⟩
        · subst h2
          have CON := FT.out w3 HB3.out.lay
          cases ft with
          | true =>
            have hr : r = 0 := by rw [HR2.out, if_neg (by simp), if_neg (by simp)]
            have CON := Lib.hid CON
            subst hr
            clear HR2
            go_wp2_with fail
            refine CON.out.mono ?_; clear CON
            rintro e w4 ⟨rfl, hl4⟩
            have HB4 := Lib.hid (HB3.out.go hl4); clear hl4
            go_wp2_with fail
            go_ret
            exact ⟨rfl, HB4.out.lay⟩
          | false =>
            have hr : r = 10 := by rw [HR2.out, if_neg (by simp), if_pos rfl]
            have CON := Lib.hid CON
            subst hr
            clear HR2
            go_wp2_with fail
            refine CON.out.mono ?_; clear CON
            rintro e w4 ⟨rfl, hl4⟩
            have HB4 := Lib.hid (HB3.out.go hl4); clear hl4
            go_wp2_with fail
            go_ret
            exact ⟨rfl, HB4.out.lay⟩
        · have hr : r = vt := by rw [HR2.out, if_pos h2]
          subst hr
          clear HR2 h2
          go_wp2_with fail
          go_ret
          exact ⟨rfl, HB3.out.lay⟩
    · have hr : r = 1 := by rw [HR.out, if_neg (by simp), if_pos (.inl h1)]
      subst hr
      clear HR h1
      go_wp2_with fail
      go_ret
      exact ⟨rfl, HB1.out.lay⟩
  · have hr : r = vx := by rw [HR.out, if_pos h0]
    subst hr
    clear HR h0
    go_wp2_with fail
    go_ret
    exact ⟨rfl, HB1.out.lay⟩
end Go.Proofs.YtipmibjhlpnhjaaGreatDoor
