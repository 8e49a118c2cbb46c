/- The law SubstAgain, walked. -/
import Derived.Test.YtkbkgiihgghbeaaDoorSapplyLaw
import Derived.Test.YtkbkgiihgghbeaaDoorSagain
namespace Go.Proofs.YtkbkgiihgghbeaaDoor
open Go.RowKit Go.Sort

set_option maxHeartbeats 2000000 in
set_option maxRecDepth 100000 in
theorem again_law (s : List Bd) (l : List Tm) (S0 L0 : Option Addr) (sc lc : Nat) (w : World) (hw : Words w.heap.size w) (hrs : RepB w (fun b => b < w.heap.size) s S0 sc) (hrl : RepS w (fun b => b < w.heap.size) l L0 lc) (hrooms : s.length * 112 ≤ 140737488355328) :
    Calls Tryd.prog 8 #[.slice S0 s.length sc, .slice L0 l.length lc] w fun e w' => e = .returned (.bool true) ∧ Below w.heap.size w w' := by
  have mixed : Tryd.prog.follows .mixedOrders = true := by kernel_rfl
  have HRS0 : Hid (∀ Z, Below w.heap.size w Z → RepB Z (fun b => b < Z.heap.size) s S0 sc) := Lib.hid fun Z h => hrs.go h h.size
  have HRL0 : Hid (∀ Z, Below w.heap.size w Z → RepS Z (fun b => b < Z.heap.size) l L0 lc) := Lib.hid fun Z h => RepS.up (hrl.below h) h.size
  have HROOMS := Lib.hid hrooms; clear hrooms
  have HW := Lib.hid hw; clear hw
  have AWK : Hid (∀ Z, Below w.heap.size w Z → Calls Tryd.prog 9 #[] Z fun e w' => e = .returned (.bool true) ∧ Below Z.heap.size Z w') := Lib.hid fun Z h => sawake_any Z (HW.out.below h)
  clear hrs hrl
  go_enter Tryd.func8, Tryd.ntmps8
  go_wp2_with fail
  refine (AWK.out w (Below.refl _ _)).mono ?_
  rintro e w1 ⟨rfl, hb1⟩
  have HB1 := Lib.hid hb1; clear hb1
  go_wp2_with fail
  refine (rfewB_any s S0 sc 20 600 w1 (by decide) (by decide) (by decide) (by decide) HROOMS.out (HRS0.out w1 HB1.out)).mono ?_
  rintro e w2 ⟨rfl, hb2⟩
  have HB2 := Lib.hid (below_then HB1.out hb2 HB1.out.size); clear hb2 HB1
  cases hf : fewB s 20 600 with
  | false =>
    clear hf
    go_wp2_with fail
    refine (AWK.out w2 HB2.out).mono ?_
    rintro e w3 ⟨rfl, hb3⟩
    go_wp2_with fail
    go_ret
    exact ⟨rfl, below_then HB2.out hb3 HB2.out.size⟩
  | true =>
    obtain ⟨hsz, hsl⟩ := fewB_true (by decide) (by decide) hf
    have HSZ := Lib.hid hsz; clear hsz
    clear hf
    go_wp2_with fail
    refine (few_any l L0 lc 20 600 w2 (by decide) (by decide) (HRL0.out w2 HB2.out)).mono ?_
    rintro e w3 ⟨rfl, hl3⟩
    have HB3 := Lib.hid (below_then HB2.out hl3.below HB2.out.size); clear hl3 HB2
    cases hf : decide ((l.length : Int) ≤ 20 ∧ 0 ≤ Tm.lefts l 600) with
    | false =>
      clear hf
      go_wp2_with fail
      refine (AWK.out w3 HB3.out).mono ?_
      rintro e w4 ⟨rfl, hb4⟩
      go_wp2_with fail
      go_ret
      exact ⟨rfl, below_then HB3.out hb4 HB3.out.size⟩
    | true =>
      obtain ⟨hlz, hll⟩ := fewT_true (by decide) (by decide) hf
      have hlss : Tm.sizes l ≤ 1000000 := by
        have h := (of_decide_eq_true hf).2
        have := Tm.lefts_size l 600 (by decide) h; omega
      have HLZ := Lib.hid hlz; clear hlz
      have HLS := Lib.hid hlss; clear hlss
      clear hf AWK
      have SI := Lib.hid (sidem_any s S0 sc w3 HSZ.out (by omega) (HRS0.out w3 HB3.out))
      have SR : Hid (∀ Z, Below w.heap.size w Z → Calls Tryd.prog 30 #[.slice S0 s.length sc, .slice L0 l.length lc] Z fun e w' => ∃ A c, e = .returned (.slice A (restrE s l).length c) ∧ RepB w' (fun b => b < w'.heap.size) (restrE s l) A c ∧ Below Z.heap.size Z w') := Lib.hid fun Z h =>
        srestr_any s l S0 L0 sc lc Z HSZ.out (by omega) HLZ.out (by omega) (HRS0.out Z h) (HRL0.out Z h)
      have RI : Hid (∀ Z, Below w.heap.size w Z → Calls Tryd.prog 31 #[.slice S0 s.length sc] Z fun e w' => e = .returned (.bool (idemE s)) ∧ Below Z.heap.size Z w') := Lib.hid fun Z h =>
        ridem_any s S0 sc Z HSZ.out (HRS0.out Z h)
      have RR : Hid (∀ Z, Below w.heap.size w Z → Calls Tryd.prog 32 #[.slice S0 s.length sc, .slice L0 l.length lc] Z fun e w' => ∃ A c, e = .returned (.slice A (restrE s l).length c) ∧ RepB w' (fun b => b < w'.heap.size) (restrE s l) A c ∧ Below Z.heap.size Z w') := Lib.hid fun Z h =>
        rrestr_any s l S0 L0 sc lc Z HSZ.out (by omega) HLS.out (HRS0.out Z h) (HRL0.out Z h)
      have AL : Hid (∀ Z, Below w.heap.size w Z → Calls Tryd.prog 25 #[.slice S0 s.length sc, .slice L0 l.length lc] Z (Alled (allE s l) Z)) := Lib.hid fun Z h =>
        sall_any s l S0 L0 sc lc Z HSZ.out HLZ.out (HRS0.out Z h) (HRL0.out Z h)
      have AR : Hid (∀ A c Z, Below w.heap.size w Z → RepB Z (fun b => b < Z.heap.size) (restrE s l) A c → Calls Tryd.prog 25 #[.slice A (restrE s l).length c, .slice L0 l.length lc] Z (Alled (allE (restrE s l) l) Z)) := Lib.hid fun A c Z h hr =>
        sall_any (restrE s l) l A L0 c lc Z (restrE_size l HSZ.out) HLZ.out hr (HRL0.out Z h)
      obtain ⟨haz, hal⟩ := allE_size s l
      have AA : Hid (∀ A c Z, Below w.heap.size w Z → RepS Z (fun b => b < Z.heap.size) (allE s l).1 A c → Calls Tryd.prog 25 #[.slice S0 s.length sc, .slice A (allE s l).1.length c] Z (Alled (allE s (allE s l).1) Z)) := Lib.hid fun A c Z h hr =>
        sall_any s (allE s l).1 S0 A sc c Z HSZ.out haz (HRS0.out Z h) hr
      have HAZ := Lib.hid haz; clear haz
      have HAR : Hid ((allE s l).2 = 0 → allE (restrE s l) l = allE s l) := fun h => all_restr l (allE_ok h).1
      have HAA : Hid ((allE s l).2 = 0 → idemE s = true → allE s (allE s l).1 = allE s l) := fun h hi => all_again h hi
      have HRZ : Hid (SizeB (restrE s l)) := restrE_size l HSZ.out
      have HAZ2 : Hid (∀ t ∈ (allE s (allE s l).1).1, t.size ≤ 1000000) := (allE_size s _).1
      have hal2 := (allE_size s (allE s l).1).2
      generalize allE s (allE s l).1 = r3 at *
      generalize allE (restrE s l) l = r2 at *
      generalize allE s l = r1 at *
      generalize restrE s l = rs at *
      generalize idemE s = q at *
      obtain ⟨ra, rn⟩ := r1
      have hqq : (q != q) = false := by simp
      dsimp only at hal HAZ AA HAR HAA
      go_wp2_with fail
      refine SI.out.mono ?_; clear SI
      rintro e w4 ⟨rfl, hb4⟩
      have HB4 := Lib.hid (below_then HB3.out hb4 HB3.out.size); clear hb4 HB3
      go_wp2_with fail
      refine (SR.out w4 HB4.out).mono ?_; clear SR
      rintro e w5 ⟨A5, c5, rfl, hr5, hb5⟩
      have HB5 := Lib.hid (below_then HB4.out hb5 HB4.out.size); clear hb5 HB4
      have HR5 := Lib.hid hr5; clear hr5
      go_wp2_with fail
      refine (RI.out w5 HB5.out).mono ?_; clear RI
      rintro e w6 ⟨rfl, hb6⟩
      have HB6 := Lib.hid (below_then HB5.out hb6 HB5.out.size)
      have HR6 := Lib.hid (HR5.out.go hb6 hb6.size); clear hb6 HB5 HR5
      go_wp2_with fail
      refine (RR.out w6 HB6.out).mono ?_; clear RR
      rintro e w7 ⟨A7, c7, rfl, hr7, hb7⟩
      have HB7 := Lib.hid (below_then HB6.out hb7 HB6.out.size)
      have HR7 := Lib.hid (HR6.out.go hb7 hb7.size); clear hb7 HB6 HR6
      have SA := rsameB_any rs rs A5 A7 c5 c7 w7 HRZ.out HRZ.out HR7.out hr7
      rw [decide_eq_true rfl] at SA
      have SA := Lib.hid SA; clear hr7
      go_wp2_with fail
      refine SA.out.mono ?_; clear SA
      rintro e w8 ⟨rfl, hl8⟩
      have HB8 := Lib.hid (below_then HB7.out hl8.below HB7.out.size)
      have HR8 := Lib.hid (HR7.out.go hl8.below hl8.below.size); clear hl8 HB7 HR7
      go_wp2_with fail
      refine (AL.out w8 HB8.out).mono ?_; clear AL
      rintro e w9 ⟨A9, c9, rfl, hr9, hb9⟩
      have HB9 := Lib.hid (below_then HB8.out hb9 HB8.out.size)
      have HR9 := Lib.hid (HR8.out.go hb9 hb9.size); clear hb9 HB8 HR8
      dsimp only at hr9 ⊢
      have HA9 := Lib.hid hr9; clear hr9
      rcases eq_facts rn 0 with ⟨h0, e0, n0⟩ | ⟨h0, e0, n0⟩
      rotate_left
      · clear h0
        go_wp2_with fail
        go_ret
        exact ⟨rfl, HB9.out⟩
      subst h0
      have hr2 := HAR.out rfl
      subst hr2
      go_wp2_with fail
      refine (AR.out A5 c5 w9 HB9.out HR9.out).mono ?_; clear AR
      rintro e w10 ⟨A10, c10, rfl, hr10, hb10⟩
      have HB10 := Lib.hid (below_then HB9.out hb10 HB9.out.size)
      have HA10 := Lib.hid (RepS.up (HA9.out.below hb10) hb10.size); clear hb10 HB9 HA9 HR9
      dsimp only at hr10 ⊢
      have HC10 := Lib.hid hr10; clear hr10
      go_wp2_with fail
      refine (AA.out A9 c9 w10 HB10.out HA10.out).mono ?_; clear AA
      rintro e w11 ⟨A11, c11, rfl, hr11, hb11⟩
      have HB11 := Lib.hid (below_then HB10.out hb11 HB10.out.size)
      have HA11 := Lib.hid (RepS.up (HA10.out.below hb11) hb11.size)
      have HC11 := Lib.hid (RepS.up (HC10.out.below hb11) hb11.size); clear hb11 HB10 HA10 HC10
      have LI := lists_any ra ra A9 A10 c9 c10 w11 HAZ.out HAZ.out (by omega) (by omega) HA11.out HC11.out
      rw [Tm.sames_iff.2 rfl] at LI
      have LI := Lib.hid LI; clear HC11
      cases q with
      | false =>
        go_wp2_with fail
        refine LI.out.mono ?_; clear LI
        rintro e w12 ⟨rfl, hl12⟩
        go_wp2_with fail
        go_ret
        exact ⟨rfl, below_then HB11.out hl12.below HB11.out.size⟩
      | true =>
        have hr3 := HAA.out trivial rfl
        subst hr3
        dsimp only at hr11 HAZ2 hal2 ⊢
        have HD11 := Lib.hid hr11; clear hr11
        go_wp2_with fail
        refine LI.out.mono ?_; clear LI
        rintro e w12 ⟨rfl, hl12⟩
        have HB12 := Lib.hid (below_then HB11.out hl12.below HB11.out.size)
        have LI := lists_any ra ra A9 A11 c9 c11 w12 HAZ.out HAZ.out (by omega) (by omega) (RepS.up (HA11.out.below hl12.below) hl12.below.size) (RepS.up (HD11.out.below hl12.below) hl12.below.size)
        rw [Tm.sames_iff.2 rfl] at LI
        have LI := Lib.hid LI; clear hl12 HD11 HA11
        go_wp2_with fail
        refine LI.out.mono ?_; clear LI
        rintro e w13 ⟨rfl, hl13⟩
        go_wp2_with fail
        go_ret
        exact ⟨rfl, below_then HB12.out hl13.below HB12.out.size⟩
end Go.Proofs.YtkbkgiihgghbeaaDoor
