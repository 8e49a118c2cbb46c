/- The law SubstCompose, walked. -/
import Derived.Test.YtkbkgiihgghbeaaDoorSvalidLaw
import Derived.Test.YtkbkgiihgghbeaaDoorSrcompose
namespace Go.Proofs.YtkbkgiihgghbeaaDoor
open Go.RowKit Go.Sort

theorem composeE_size (s t : List Bd) : SizeB (composeE s t).1 := by
  unfold composeE
  split
  · intro b hb; simp at hb
  split
  · intro b hb; simp at hb
  split
  · intro b hb; simp at hb
  split
  · intro b hb; simp at hb
  rename_i h1 h2 _ _
  intro b hb
  exact joinS_size (by omega) (by omega) s t (fun _ h => h) (fun _ h => h) b (sortS_mem hb)

set_option maxHeartbeats 4000000 in
set_option maxRecDepth 100000 in
theorem compose_law (s t : List Bd) (S0 T0 : Option Addr) (sc tc : Nat) (w : World) (hw : Words w.heap.size w) (hrs : RepB w (fun b => b < w.heap.size) s S0 sc) (hrt : RepB w (fun b => b < w.heap.size) t T0 tc)
    (hrooms : s.length * 112 ≤ 140737488355328) (hroomt : t.length * 112 ≤ 140737488355328) :
    Calls Tryd.prog 5 #[.slice S0 s.length sc, .slice T0 t.length tc] w fun e w' => e = .returned (.bool true) ∧ Below w.heap.size w w' := by
  have mixed : Tryd.prog.follows .mixedOrders = true := by kernel_rfl
  have HRS0 := Lib.hid hrs; clear hrs
  have HRT0 := Lib.hid hrt; clear hrt
  have HROOMS := Lib.hid hrooms; clear hrooms
  have HROOMT := Lib.hid hroomt; clear hroomt
  have HW := Lib.hid hw; clear hw
  have AWK : Hid (∀ Z, Below w.heap.size w Z → Calls Tryd.prog 9 #[] Z fun e w' => e = .returned (.bool true) ∧ Below Z.heap.size Z w') := Lib.hid fun Z h => sawake_any Z (HW.out.below h)
  go_enter Tryd.func5, Tryd.ntmps5
  go_wp2_with fail
  refine (AWK.out w (Below.refl _ _)).mono ?_
  rintro e w1 ⟨rfl, hb1⟩
  have HB1 := Lib.hid hb1
  have HRS := Lib.hid (HRS0.out.go hb1 hb1.size); clear hb1
  go_wp2_with fail
  refine (rfewB_any s S0 sc 20 600 w1 (by decide) (by decide) (by decide) (by decide) HROOMS.out HRS.out).mono ?_
  rintro e w2 ⟨rfl, hb2⟩
  have HB2 := Lib.hid (below_then HB1.out hb2 HB1.out.size); clear hb2 HB1 HRS
  cases hf : fewB s 20 600 with
  | false =>
    clear hf
    go_wp2_with fail
    refine (AWK.out w2 HB2.out).mono ?_
    rintro e w3 ⟨rfl, hb3⟩
    go_wp2_with fail
    go_ret
    exact ⟨rfl, below_then HB2.out hb3 HB2.out.size⟩
  | true =>
    have HSZ := Lib.hid (fewB_true (by decide) (by decide) hf).1
    clear hf
    go_wp2_with fail
    refine (rfewB_any t T0 tc 20 600 w2 (by decide) (by decide) (by decide) (by decide) HROOMT.out (HRT0.out.go HB2.out HB2.out.size)).mono ?_
    rintro e w3 ⟨rfl, hb3⟩
    have HB3 := Lib.hid (below_then HB2.out hb3 HB2.out.size); clear hb3 HB2
    cases hf : fewB t 20 600 with
    | false =>
      clear hf
      go_wp2_with fail
      refine (AWK.out w3 HB3.out).mono ?_
      rintro e w4 ⟨rfl, hb4⟩
      go_wp2_with fail
      go_ret
      exact ⟨rfl, below_then HB3.out hb4 HB3.out.size⟩
    | true =>
      have HTZ := Lib.hid (fewB_true (by decide) (by decide) hf).1
      clear hf AWK
      have hcz := composeE_size s t
      have CO := scompose_any s t S0 T0 sc tc w3 HSZ.out HTZ.out (HRS0.out.go HB3.out HB3.out.size) (HRT0.out.go HB3.out HB3.out.size)
      have RC : Hid (∀ Z, Below w.heap.size w Z → Calls Tryd.prog 17 #[.slice S0 s.length sc, .slice T0 t.length tc] Z (RComposed (composeE s t) Z)) := Lib.hid fun Z h =>
        rcompose_any' s t S0 T0 sc tc Z HSZ.out HTZ.out (HRS0.out.go h h.size) (HRT0.out.go h h.size)
      generalize composeE s t = r at *
      obtain ⟨l, n⟩ := r
      have CO := Lib.hid CO
      have HCZ := Lib.hid hcz; clear hcz
      have hn : (n == n) = true := beq_self_eq_true n
      have hn2 : (n != n) = false := by simp
      go_wp2_with fail
      refine CO.out.mono ?_; clear CO
      rintro e w4 ⟨A4, c4, rfl, hr4, hb4⟩
      have HB4 := Lib.hid (below_then HB3.out hb4 HB3.out.size); clear hb4 HB3
      have HR4 : Hid (RepB w4 (fun b => b < w4.heap.size) l A4 c4) := RepB.mono (fun b h => h.2) (fun _ _ => rfl) hr4
      clear hr4
      dsimp only
      go_wp2_with fail
      refine (RC.out w4 HB4.out).mono ?_; clear RC
      rintro e w5 ⟨A5, c5, rfl, hr5, hb5⟩
      have HB5 := Lib.hid (below_then HB4.out hb5 HB4.out.size); clear HB4
      have HR5 := Lib.hid (HR4.out.go hb5 hb5.size); clear HR4 hb5
      have SA := rsameB_any l l A4 A5 c4 c5 w5 HCZ.out HCZ.out HR5.out hr5
      rw [decide_eq_true rfl] at SA
      have SA := Lib.hid SA
      dsimp only
      clear hr5
      go_wp2_with fail
      refine SA.out.mono ?_; clear SA
      rintro e w6 ⟨rfl, hl6⟩
      go_wp2_with fail
      go_ret
      exact ⟨rfl, below_then HB5.out hl6.below HB5.out.size⟩
end Go.Proofs.YtkbkgiihgghbeaaDoor
