/- The law SubstParse, walked. -/
import Derived.Test.YtipmibjhlpnhjaaGreatDoorStextLaw
import Derived.Test.YtipmibjhlpnhjaaGreatDoorSrsparse
namespace Go.Proofs.YtipmibjhlpnhjaaGreatDoor
open Go.RowKit Go.Sort

/-- what is parsed is small -/
theorem parseSE_size {l : List UInt8} (h : l.length ≤ 100000) : SizeB (parseSE l).1 := by
  have hn : SizeB [] := fun b hb => by cases hb
  unfold parseSE
  split
  · exact hn
  split
  · exact hn
  unfold bodyE
  split
  · exact hn
  split
  · exact hn
  split
  · exact hn
  intro b hb
  obtain ⟨p, hp, rfl⟩ := List.mem_map.1 hb
  have := pieces_len hp
  simp only [List.length_drop, List.length_take] at this
  exact bdP_size (by omega)

set_option maxHeartbeats 4000000 in
set_option maxRecDepth 100000 in
theorem sparse_law (s : ByteArray) (w : World) (hm : Maxl w) (hw : Words w.heap.size w) :
    Calls Tryz.prog 9 #[.string s] w fun e w' => e = .returned (.bool true) ∧ Below w.heap.size w w' := by
  have mixed : Tryz.prog.follows .mixedOrders = true := by kernel_rfl
  have HW := Lib.hid hw; clear hw
  have HM := Lib.hid hm; clear hm
  go_enter Tryz.func9, Tryz.ntmps9
  go_wp2_with fail
  refine (sawake_any w HW.out).mono ?_
  rintro e w1 ⟨rfl, hb1⟩
  have HB := Lib.hid hb1
  have HW1 := Lib.hid (HW.out.below hb1); clear HW
  have HM1 := Lib.hid (HM.out.below hb1); clear HM hb1
  by_cases hlen : (1000 : Int) < (s.size : Int)
  · go_wp2_with fail
    refine (sawake_any w1 HW1.out).mono ?_
    rintro e w3 ⟨rfl, hb3⟩
    go_wp2_with fail
    go_ret
    exact ⟨rfl, below_then HB.out hb3 HB.out.size⟩
  have hl1 : s.data.toList.length ≤ 1000 := by rw [← size_list]; omega
  have HSZ := Lib.hid (parseSE_size (l := s.data.toList) (by omega))
  have C1 := sparse_any s w1 (by omega) HM1.out HW1.out
  have C2 : Hid (∀ Z, Calls Tryz.prog 35 #[.string s] Z (ParsedS (parseSE s.data.toList) Z)) := Lib.hid fun Z => rsparse_any s Z (by omega)
  have HFT : Hid ((parseSE s.data.toList).2 = 0 → validS (parseSE s.data.toList).1 = 0 ∧ formatB (parseSE s.data.toList).1 = s.data.toList) := Lib.hid fun h => format_parseSE h
  clear hl1
  generalize parseSE s.data.toList = q at *
  obtain ⟨r, n⟩ := q
  unfold ParsedS at C1 C2
  dsimp only at C1 C2 HFT HSZ
  have hq : (n != n) = false := by simp
  have hq2 : (n == n) = true := by simp
  have hq3 : (s.toList == s.toList) = true := beq_self_eq_true _
  have C1 := Lib.hid C1
  go_wp2_with fail
  refine C1.out.mono ?_; clear C1
  rintro e w2 ⟨A2, c2, rfl, hr2, hb2⟩
  have HB2 := Lib.hid (below_then HB.out hb2 HB.out.size)
  have HW2 := Lib.hid (HW1.out.below hb2); clear HW1 HB HM1
  have HR2 := Lib.hid hr2; clear hr2 hb2
  go_wp2_with fail
  refine (C2.out w2).mono ?_; clear C2
  rintro e w3 ⟨A3, c3, rfl, hr3, hb3⟩
  have HB3 := Lib.hid (below_then HB2.out hb3 HB2.out.size)
  have HW3 := Lib.hid (HW2.out.below hb3); clear HW2 HB2
  have HR3 := Lib.hid (HR2.out.go hb3 hb3.size); clear HR2
  have SM := rsameB_any r r A2 A3 c2 c3 w3 HSZ.out HSZ.out HR3.out hr3
  rw [decide_eq_true (rfl : r = r)] at SM
  have SM := Lib.hid SM
  have SM2 : Hid (∀ Z, Lay w3.heap.size w3 Z → Calls Tryz.prog 34 #[.slice A2 r.length c2, .slice A3 r.length c3] Z fun e w' => e = .returned (.bool true) ∧ Lay Z.heap.size Z w') := Lib.hid fun Z h => by
    have := rsameB_any r r A2 A3 c2 c3 Z HSZ.out HSZ.out (HR3.out.go h.below h.size) (hr3.go h.below h.size)
    rw [decide_eq_true (rfl : r = r)] at this; exact this
  have F1 : Hid (∀ Z, Lay w3.heap.size w3 Z → Calls Tryz.prog 31 #[.slice A2 r.length c2] Z fun e w' => e = .returned (.tuple #[.string ⟨(FormatE r).1.toArray⟩, .int .i64 (FormatE r).2]) ∧ Below Z.heap.size Z w') := Lib.hid fun Z h =>
    sformat_any r A2 c2 Z HSZ.out (HR3.out.go h.below h.size) (HW3.out.below h.below)
  clear hr3 hb3 HW3 HR3
  rcases eq_facts n 0 with ⟨h0, e0, n0⟩ | ⟨h0, e0, n0⟩
  · subst h0
    have hfr : FormatE r = (s.data.toList, 0) := by
      obtain ⟨h1, h2⟩ := HFT.out rfl
      unfold FormatE
      rw [if_neg (by simpa using h1), h2]
    rw [hfr] at F1
    dsimp only at F1
    have es : (⟨s.data.toList.toArray⟩ : ByteArray) = s := by cases s; simp
    rw [es] at F1
    clear HFT hfr es SM2
    go_wp2_with fail
    refine SM.out.mono ?_; clear SM
    rintro e w4 ⟨rfl, hl4⟩
    have F1 := Lib.hid (F1.out w4 hl4)
    have HB4 := Lib.hid (below_then HB3.out hl4.below HB3.out.size); clear hl4
    go_wp2_with fail
    refine F1.out.mono ?_; clear F1
    rintro e w5 ⟨rfl, hb5⟩
    go_wp2_with fail
    go_ret
    exact ⟨rfl, below_then HB4.out hb5 HB4.out.size⟩
  · clear h0 HFT F1
    go_wp2_with fail
    refine SM.out.mono ?_; clear SM
    rintro e w4 ⟨rfl, hl4⟩
    have SM2 := Lib.hid (SM2.out w4 hl4)
    have HB4 := Lib.hid (below_then HB3.out hl4.below HB3.out.size); clear hl4
    go_wp2_with fail
    refine SM2.out.mono ?_; clear SM2
    rintro e w5 ⟨rfl, hl5⟩
    go_wp2_with fail
    go_ret
    exact ⟨rfl, below_then HB4.out hl5.below HB4.out.size⟩
end Go.Proofs.YtipmibjhlpnhjaaGreatDoor
