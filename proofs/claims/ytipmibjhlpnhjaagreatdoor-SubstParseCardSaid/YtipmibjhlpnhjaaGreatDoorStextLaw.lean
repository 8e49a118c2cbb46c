/- The law SubstText, walked. -/
import Derived.Test.YtipmibjhlpnhjaaGreatDoorSawake
import Derived.Test.YtipmibjhlpnhjaaGreatDoorSrformat
import Derived.Test.YtipmibjhlpnhjaaGreatDoorSsparse
namespace Go.Proofs.YtipmibjhlpnhjaaGreatDoor
open Go.RowKit Go.Sort

theorem flat_memT {l : List Bd} {b : Bd} (h : b ∈ l) : b.1 ∈ flat l ∧ b.2 ∈ flat l := by
  induction l with
  | nil => simp at h
  | cons x r ih =>
    rcases List.mem_cons.1 h with rfl | h
    · simp [flat]
    · exact ⟨List.mem_cons_of_mem _ (List.mem_cons_of_mem _ (ih h).1), List.mem_cons_of_mem _ (List.mem_cons_of_mem _ (ih h).2)⟩
/-- what a guard says -/
theorem fewB_trueT {l : List Bd} {n m : Int} (hm : 0 ≤ m) (hm1 : m ≤ 1000000) (h : fewB l n m = true) : SizeB l ∧ (l.length : Int) ≤ n := by
  unfold fewB at h
  simp only [Bool.and_eq_true, decide_eq_true_eq] at h
  refine ⟨fun b hb => ?_, by have := h.1; rw [flat_length] at this; push_cast at this; omega⟩
  have h2 := Tm.lefts_each hm h.2
  obtain ⟨h3, h4⟩ := flat_memT hb
  have := h2 _ h3; have := h2 _ h4; omega
/-- the package variable of internal/bytealg in any world that a row hands -/
theorem maxl_of_shaped {w : World} (h : w.ShapedOpen Tryz.prog) : Maxl w := by
  obtain ⟨m, hm⟩ := Go.Proofs.cell_of_shapedOpen_int (g := 1) (zero := #[.int .i64 0]) (t := 3) h (of_decide_eq_true (by kernel_rfl)) (by kernel_rfl) rfl (by kernel_rfl) (by kernel_rfl) Tryz.underlying3
  refine ⟨?_, m, hm⟩
  unfold World.cell? at hm
  cases hb : w.heap[1]? with
  | none => rw [hb] at hm; cases hm
  | some o => exact (Array.getElem?_eq_some_iff.1 hb).1
theorem join_le : ∀ (L : List (List UInt8)), (Lib.join L [44, 32]).length ≤ Lib.lens L + 2 * L.length
  | [] => by rw [Lib.join_nil]; simp
  | x :: r => by rw [Lib.join_length]; simp only [List.length_cons, List.length_nil]; omega
theorem lines_le : ∀ (l : List Bd), (∀ b ∈ l, b.1.check = 0 ∧ b.2.check = 0) → Lib.lens (l.map lineB) ≤ 40 * Tm.sizes (flat l)
  | [], _ => by simp [Lib.lens]
  | b :: r, h => by
    have ih := lines_le r fun c hc => h c (List.mem_cons_of_mem _ hc)
    obtain ⟨h1, h2⟩ := h b (List.mem_cons_self ..)
    have k1 := text_len b.1 h1
    have k2 := text_len b.2 h2
    have e : Lib.lens ((b :: r).map lineB) = (lineB b).length + Lib.lens (r.map lineB) := by simp [Lib.lens]
    have e2 : (lineB b).length = b.1.text.length + 3 + b.2.text.length := by unfold lineB; simp; omega
    have e3 : Tm.sizes (flat (b :: r)) = b.1.size + (b.2.size + Tm.sizes (flat r)) := by rw [flat, Tm.sizes, Tm.sizes]
    omega
theorem format_le {l : List Bd} (hf : fewB l 210 2000 = true) (hv : validS l = 0) : (formatB l).length ≤ 100000 := by
  have hz := validS_zero hv
  unfold fewB at hf
  simp only [Bool.and_eq_true, decide_eq_true_eq] at hf
  have h1 := Tm.lefts_size (flat l) 2000 (by decide) hf.2
  have h2 := lines_le l fun b hb => by
    have := bindE_zero (hz.2.1 b hb)
    exact ⟨(valid_check this.1).1, (valid_check this.2.2.2.1).1⟩
  have h3 := join_le (l.map lineB)
  have h4 := hz.1
  unfold formatB
  simp only [List.length_append, List.length_cons, List.length_nil, List.length_map] at h3 ⊢
  omega

set_option maxHeartbeats 4000000 in
set_option maxRecDepth 100000 in
theorem text_law (l : List Bd) (A : Option Addr) (cap : Nat) (w : World) (hm : Maxl w) (hw : Words w.heap.size w) (hr : RepB w (fun b => b < w.heap.size) l A cap) (hroom : l.length * 112 ≤ 140737488355328) :
    Calls Tryz.prog 8 #[.slice A l.length cap] w fun e w' => e = .returned (.bool true) ∧ Below w.heap.size w w' := by
  have mixed : Tryz.prog.follows .mixedOrders = true := by kernel_rfl
  have HR0 := Lib.hid hr; clear hr
  have HROOM := Lib.hid hroom; clear hroom
  have HW := Lib.hid hw; clear hw
  have HM := Lib.hid hm; clear hm
  go_enter Tryz.func8, Tryz.ntmps8
  go_wp2_with fail
  refine (sawake_any w HW.out).mono ?_
  rintro e w1 ⟨rfl, hb1⟩
  have HB := Lib.hid hb1
  have HW1 := Lib.hid (HW.out.below hb1); clear HW
  have HM1 := Lib.hid (HM.out.below hb1); clear HM
  have HR := Lib.hid (HR0.out.go hb1 hb1.size); clear HR0 hb1
  go_wp2_with fail
  refine (rfewB_any l A cap 210 2000 w1 (by decide) (by decide) (by decide) (by decide) HROOM.out HR.out).mono ?_
  rintro e w2 ⟨rfl, hb2⟩
  have hB2 := below_then HB.out hb2 HB.out.size
  have HW2 := Lib.hid (HW1.out.below hb2); clear HW1 HB
  have HM2 := Lib.hid (HM1.out.below hb2); clear HM1
  have HR2 := Lib.hid (HR.out.go hb2 hb2.size); clear HR hb2
  have HB := Lib.hid hB2; clear hB2
  cases hf : fewB l 210 2000 with
  | true =>
    have HSZ := Lib.hid (fewB_trueT (by decide) (by decide) hf).1
    have HFL : Hid ((FormatE l).2 = 0 → (FormatE l).1 = formatB l ∧ (formatB l).length ≤ 100000 ∧ parseSE (formatB l) = (l, 0)) := Lib.hid fun h => by
      unfold FormatE at h ⊢
      split at h
      · rename_i g; exact absurd h g
      · rename_i g
        rw [if_neg g]
        exact ⟨rfl, format_le hf (by simpa using g), parseSE_format (by simpa using g)⟩
    clear hf
    have F2 : Hid (∀ Z, Below w2.heap.size w2 Z → Calls Tryz.prog 32 #[.slice A l.length cap] Z fun e w' => e = .returned (.tuple #[.string ⟨(FormatE l).1.toArray⟩, .int .i64 (FormatE l).2]) ∧ Lay Z.heap.size Z w') :=
      Lib.hid fun Z h => rformat_any l A cap Z HSZ.out (HR2.out.go h h.size)
    have F1 := Lib.hid (sformat_any l A cap w2 HSZ.out HR2.out HW2.out)
    generalize FormatE l = q at *
    obtain ⟨x, n⟩ := q
    dsimp only at HFL F1 F2
    have hq : (n != n) = false := by simp
    have hq2 : (n == n) = true := by simp
    obtain ⟨sx, hsx⟩ : ∃ sx : ByteArray, sx = ⟨x.toArray⟩ := ⟨_, rfl⟩
    rw [← hsx] at F1 F2
    have hq3 : (sx.toList == sx.toList) = true := beq_self_eq_true _
    have hq4 : (sx.toList != sx.toList) = false := by simp
    have HSX := Lib.hid hsx; clear hsx
    go_wp2_with fail
    refine F1.out.mono ?_; clear F1
    rintro e w3 ⟨rfl, hb3⟩
    have F2 := Lib.hid (F2.out w3 hb3)
    have HB3 := Lib.hid (below_then HB.out hb3 HB.out.size)
    have HM3 := Lib.hid (HM2.out.below hb3); clear HM2
    have HW3 := Lib.hid (HW2.out.below hb3); clear HW2
    have HR3 := Lib.hid (HR2.out.go hb3 hb3.size); clear HR2 hb3 HB
    go_wp2_with fail
    refine F2.out.mono ?_; clear F2
    rintro e w4 ⟨rfl, hl4⟩
    have hb4 := hl4.below
    have HB4 := Lib.hid (below_then HB3.out hb4 HB3.out.size)
    have HM4 := Lib.hid (HM3.out.below hb4); clear HM3
    have HW4 := Lib.hid (HW3.out.below hb4); clear HW3
    have HR4 := Lib.hid (HR3.out.go hb4 hb4.size); clear HR3 hl4 hb4 HB3
    rcases eq_facts n 0 with ⟨h0, e0, n0⟩ | ⟨h0, e0, n0⟩
    · subst h0
      obtain ⟨hx, hlen, hback⟩ := HFL.out rfl
      subst hx
      have PS := sparse_any sx w4 (by rw [HSX.out]; show (formatB l).toArray.size ≤ _; rw [List.size_toArray]; exact hlen) HM4.out HW4.out
      rw [show sx.data.toList = formatB l by rw [HSX.out], hback] at PS
      have PS := Lib.hid PS
      clear hlen hback HFL
      go_wp2_with fail
      refine PS.out.mono ?_; clear PS
      rintro e w5 ⟨A5, c5, rfl, hr5, hb5⟩
      have HB5 := Lib.hid (below_then HB4.out hb5 HB4.out.size)
      have SM := rsameB_any l l A5 A c5 cap w5 HSZ.out HSZ.out hr5 (HR4.out.go hb5 hb5.size)
      rw [decide_eq_true (rfl : l = l)] at SM
      have SM := Lib.hid SM
      clear hr5 hb5
      go_wp2_with fail
      refine SM.out.mono ?_; clear SM
      rintro e w6 ⟨rfl, hl6⟩
      go_wp2_with fail
      go_ret
      exact ⟨rfl, below_then HB5.out hl6.below HB5.out.size⟩
    · clear h0 HFL
      go_wp2_with fail
      go_ret
      exact ⟨rfl, HB4.out⟩
  | false =>
    clear hf
    go_wp2_with fail
    refine (sawake_any w2 HW2.out).mono ?_
    rintro e w3 ⟨rfl, hb3⟩
    go_wp2_with fail
    go_ret
    exact ⟨rfl, below_then HB.out hb3 HB.out.size⟩
end Go.Proofs.YtipmibjhlpnhjaaGreatDoor
