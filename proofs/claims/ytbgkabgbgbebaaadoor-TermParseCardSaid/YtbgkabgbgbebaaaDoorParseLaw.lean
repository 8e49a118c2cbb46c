/- TermParse's walk: Parse returns the valid term with any text, whose text it is, or the specified error. -/
import Derived.Test.YtbgkabgbgbebaaaDoorAwake
import Derived.Test.YtbgkabgbgbebaaaDoorShut
import Derived.Test.YtbgkabgbgbebaaaDoorRparse
import Derived.Test.YtbgkabgbgbebaaaDoorTie
import Derived.Test.YtbgkabgbgbebaaaDoorCards
namespace Go.Proofs.YtbgkabgbgbebaaaDoor
open Go.RowKit Go.Sort

theorem parseE_size (l : List UInt8) : (parseE l).1.size ≤ l.length + 1 := by
  unfold parseE
  split
  · rename_i t h
    have := (psize _).1 _ _ _ h
    split
    · simp only [List.length_nil] at this; show t.size ≤ _; omega
    · simp [Tm.size, Tm.sizes]
  · simp [Tm.size, Tm.sizes]

set_option maxHeartbeats 4000000 in
set_option maxRecDepth 100000 in
theorem parse_law (s : ByteArray) (w : World) (hw : Words w.heap.size w) :
    Calls Tryd.prog 10 #[.string s] w fun e w' => e = .returned (.bool true) ∧ Below w.heap.size w w' := by
  have mixed : Tryd.prog.follows .mixedOrders = true := by kernel_rfl
  have HW := Lib.hid hw; clear hw
  go_enter Tryd.func10, Tryd.ntmps10
  go_wp2_with fail
  refine (awake_any w HW.out).mono ?_
  rintro e w1 ⟨rfl, hb1⟩
  have hw1 := HW.out.below hb1
  have HB := Lib.hid hb1; clear hb1 HW
  have HW := Lib.hid hw1; clear hw1
  by_cases hle : s.size ≤ 2000
  · have q0 : decide (2000 < (s.size : Int)) = false := decide_eq_false (by omega)
    have q1 : decide (2000 < s.size) = false := decide_eq_false (by omega)
    have PA := parse_any s w1 (by omega) HW.out
    have RP : Hid (∀ Z, Calls Tryd.prog 45 #[.string s] Z (Parsed s.data.toList Z)) := Lib.hid fun Z => rparse_any s Z hle
    have hpz := parseE_size s.data.toList
    rw [← size_list] at hpz
    have hpt := text_parseE (l := s.data.toList)
    unfold Parsed at PA RP
    obtain ⟨p, hp⟩ : ∃ p, p = (parseE s.data.toList).1 := ⟨_, rfl⟩
    obtain ⟨ec, hec⟩ : ∃ ec, ec = (parseE s.data.toList).2 := ⟨_, rfl⟩
    rw [← hp, ← hec] at PA RP hpt
    rw [← hp] at hpz
    have HPT := Lib.hid hpt; clear hpt hp hec
    have PA := Lib.hid PA
    go_wp2_with fail
    refine PA.out.mono ?_; clear PA
    rintro e w2 ⟨A, cap, rfl, hrep2, hb2⟩
    obtain ⟨X, hX⟩ : ∃ X, X = w2.alloc (boxOf p A cap) := ⟨_, rfl⟩
    have hbX : Below w2.heap.size w2 X := by rw [hX]; exact below1 (Nat.le_refl _) _
    have hbx : BoxT X w2.heap.size p A cap := by rw [hX]; exact BoxT.new (repT_of hrep2)
    have hB2 := below_then HB.out hb2 HB.out.size
    have HBX := Lib.hid (below_then hB2 hbX hB2.size)
    have hwX := (HW.out.below hb2).below hbX
    have RP := Lib.hid (RP.out X)
    simp only [boxOf] at hX
    have HX := Lib.hid hX; clear hX hrep2 hb2 hbX hB2 HB HW
    have HW := Lib.hid hwX; clear hwX
    have HBOX := Lib.hid hbx; clear hbx
    simp only [Tm.val]
    go_wp2_with fail
    rw [← HX.out]
    refine RP.out.mono ?_; clear RP HX
    rintro e w3 ⟨A', cap', rfl, hrep3, hb3⟩
    obtain ⟨Y, hY⟩ : ∃ Y, Y = w3.alloc (boxOf p A' cap') := ⟨_, rfl⟩
    have hbY : Below w3.heap.size w3 Y := by rw [hY]; exact below1 (Nat.le_refl _) _
    have hby : BoxT Y w3.heap.size p A' cap' := by rw [hY]; exact BoxT.new (repT_of hrep3)
    have hbp := (HBOX.out.below hb3).below hbY
    have hB3 := below_then HBX.out hb3 HBX.out.size
    have HBY := Lib.hid (below_then hB3 hbY hB3.size)
    have hwY := (HW.out.below hb3).below hbY
    have SM : Hid (∀ Z, Below Y.heap.size Y Z → Calls Tryd.prog 25 #[p.val A cap, p.val A' cap'] Z fun e w' => e = .returned (.bool true) ∧ Lay Z.heap.size Z w') := Lib.hid fun Z hZ => by
      have := rsame_any p p A A' cap cap' Z (by omega) (by omega) (hbp.below hZ).2 (hby.below hZ).2
      rw [Tm.same_iff.2 rfl] at this
      exact this
    obtain ⟨a0, a1, a2, a3, -⟩ := hbp.cells
    obtain ⟨u0, u1, u2, u3, -⟩ := hby.cells
    rw [hY] at a0 a1 a2 a3 u0 u1 u2 u3
    have hne : w3.heap.size ≠ w2.heap.size := by have := HBOX.out.lt; have := hb3.size; omega
    simp only [boxOf] at hY a0 a1 a2 a3 u0 u1 u2 u3
    have HY := Lib.hid hY; clear hY hrep3 hb3 hbY hB3 HBX HW HBOX
    have HW := Lib.hid hwY; clear hwY
    have HBP := Lib.hid hbp; clear hbp
    have HBU := Lib.hid hby; clear hby
    have CON := Lib.hid (SM.out Y (Below.refl _ _))
    simp only [Tm.val] at CON SM ⊢
    have q2 : (ec == ec) = true := by simp
    go_wp2_with fail
    rw [← HY.out]
    refine CON.out.mono ?_; clear CON a0 a1 a2 a3 u0 u1 u2 u3 HY
    rintro e w4 ⟨rfl, hl4⟩
    have hb4 := hl4.below
    have hbp := HBP.out.below hb4
    have hbu := HBU.out.below hb4
    obtain ⟨a0, a1, a2, a3, -⟩ := hbp.cells
    obtain ⟨u0, u1, u2, u3, -⟩ := hbu.cells
    have HB4 := Lib.hid (below_then HBY.out hb4 HBY.out.size)
    have hw4 := HW.out.below hb4
    have CON := Lib.hid (SM.out w4 hb4)
    clear hl4 hb4 HBY HW HBU HBP SM hbu
    have HBP := Lib.hid hbp; clear hbp
    have HW := Lib.hid hw4; clear hw4
    by_cases h0 : ec = 0
    · have hpv := HPT.out h0
      have FM := format_any p A cap w4 (by omega) HBP.out.2 HW.out
      rw [show p.formatE = (s.data.toList, 0) by unfold Tm.formatE; rw [if_pos hpv.1, hpv.2], ← bytes_of_list] at FM
      rw [Tm.val] at FM
      have FM := Lib.hid FM
      subst h0
      clear hpv HPT CON
      go_wp2_with fail
      refine FM.out.mono ?_
      rintro e w5 ⟨rfl, hb5⟩
      have HB5 := Lib.hid (below_then HB4.out hb5 HB4.out.size); clear hb5
      go_wp2_with fail
      go_ret
      exact ⟨rfl, HB5.out⟩
    · have e0 : (ec == 0) = false := by rw [beq_eq_false_iff_ne]; exact h0
      have e1 : (ec != 0) = true := by unfold bne; rw [e0]; rfl
      clear h0 HPT
      go_wp2_with fail
      refine CON.out.mono ?_
      rintro e w5 ⟨rfl, hl5⟩
      have HB5 := Lib.hid (below_then HB4.out hl5.below HB4.out.size); clear hl5
      go_wp2_with fail
      go_ret
      exact ⟨rfl, HB5.out⟩
  · have q0 : decide (2000 < (s.size : Int)) = true := decide_eq_true (by omega)
    have q1 : decide (2000 < s.size) = true := decide_eq_true (by omega)
    go_wp2_with fail
    refine (awake_any w1 HW.out).mono ?_
    rintro e w3 ⟨rfl, hb3⟩
    have HB3 := Lib.hid (below_then HB.out hb3 HB.out.size); clear hb3
    go_wp2_with fail
    go_ret
    exact ⟨rfl, HB3.out⟩
end Go.Proofs.YtbgkabgbgbebaaaDoor
