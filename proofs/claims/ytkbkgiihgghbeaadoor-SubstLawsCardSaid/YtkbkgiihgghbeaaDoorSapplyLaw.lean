/- The law SubstApply, walked. -/
import Derived.Test.YtkbkgiihgghbeaaDoorSvalidLaw
import Derived.Test.YtkbkgiihgghbeaaDoorSall
import Derived.Test.YtkbkgiihgghbeaaDoorSown
namespace Go.Proofs.YtkbkgiihgghbeaaDoor
open Go.RowKit Go.Sort

theorem fewT_true {l : List Tm} {n m : Int} (hm : 0 ≤ m) (hm1 : m ≤ 1000000) (h : decide ((l.length : Int) ≤ n ∧ 0 ≤ Tm.lefts l m) = true) : (∀ t ∈ l, t.size ≤ 1000000) ∧ (l.length : Int) ≤ n := by
  have h := of_decide_eq_true h
  exact ⟨fun t ht => by have := Tm.lefts_each hm h.2 t ht; omega, h.1⟩
theorem allE_size (s : List Bd) (l : List Tm) : (∀ t ∈ (allE s l).1, t.size ≤ 1000000) ∧ (allE s l).1.length ≤ 200 := by
  unfold allE
  split
  · simp
  split
  · simp
  split
  · simp
  rename_i h1 h2 h3
  refine ⟨fun t ht => ?_, by simp; omega⟩
  obtain ⟨u, hu, rfl⟩ := List.mem_map.1 ht
  have key : ∀ l : List Tm, errT s l = 0 → ∀ u ∈ l, (applyE s u).2 = 0 := by
    intro l
    induction l with
    | nil => intro _ u hu; simp at hu
    | cons x r ih =>
      intro h u hu
      rw [errT] at h
      split at h
      · rename_i g; exact absurd h g
      · rename_i g
        rcases List.mem_cons.1 hu with rfl | hu
        · omega
        · exact ih h u hu
  have h4 := key l (by omega) u hu
  have h5 := applyE_ok (s := s) (t := u) (u := (applyE s u).1) (n := (applyE s u).2) rfl h4
  rw [← h5.1]; omega
theorem ApplyE_size (s : List Bd) (t : Tm) : (ApplyE s t).1.size ≤ 1000000 := by
  unfold ApplyE
  split
  · simp [Tm.size, Tm.sizes]
  unfold applyE
  split
  · simp [Tm.size, Tm.sizes]
  split
  · simp [Tm.size, Tm.sizes]
  rename_i h
  have := valid_size (t := t.put s) (by omega)
  show (t.put s).size ≤ _
  omega

set_option maxHeartbeats 2000000 in
set_option maxRecDepth 100000 in
theorem apply_law (s : List Bd) (l : List Tm) (S0 L0 : Option Addr) (sc lc : Nat) (w : World) (hw : Words w.heap.size w) (hrs : RepB w (fun b => b < w.heap.size) s S0 sc) (hrl : RepS w (fun b => b < w.heap.size) l L0 lc) (hrooms : s.length * 112 ≤ 140737488355328) :
    Calls Tryd.prog 7 #[.slice S0 s.length sc, .slice L0 l.length lc] w fun e w' => e = .returned (.bool true) ∧ Below w.heap.size w w' := by
  have mixed : Tryd.prog.follows .mixedOrders = true := by kernel_rfl
  have hl2 := hrl.1
  have hl1 := hrl.2.1
  unfold maxLen at hl1
  have HRS0 : Hid (∀ Z, Below w.heap.size w Z → RepB Z (fun b => b < Z.heap.size) s S0 sc) := Lib.hid fun Z h => hrs.go h h.size
  have HRL0 : Hid (∀ Z, Below w.heap.size w Z → RepS Z (fun b => b < Z.heap.size) l L0 lc) := Lib.hid fun Z h => RepS.up (hrl.below h) h.size
  have HRLP := Lib.hid hrl.2.2
  have HROOMS := Lib.hid hrooms; clear hrooms
  have HW := Lib.hid hw; clear hw
  have AWK : Hid (∀ Z, Below w.heap.size w Z → Calls Tryd.prog 9 #[] Z fun e w' => e = .returned (.bool true) ∧ Below Z.heap.size Z w') := Lib.hid fun Z h => sawake_any Z (HW.out.below h)
  clear hrs hrl
  go_enter Tryd.func7, Tryd.ntmps7
  go_wp2_with fail
  refine (AWK.out w (Below.refl _ _)).mono ?_
  rintro e w1 ⟨rfl, hb1⟩
  have HB1 := Lib.hid hb1; clear hb1
  go_wp2_with fail
  refine (rfewB_any s S0 sc 20 600 w1 (by decide) (by decide) (by decide) (by decide) HROOMS.out (HRS0.out w1 HB1.out)).mono ?_
  rintro e w2 ⟨rfl, hb2⟩
  have HB2 := Lib.hid (below_then HB1.out hb2 HB1.out.size); clear hb2 HB1
  cases hf : fewB s 20 600 with
  | false =>
    clear hf
    go_wp2_with fail
    refine (AWK.out w2 HB2.out).mono ?_
    rintro e w3 ⟨rfl, hb3⟩
    go_wp2_with fail
    go_ret
    exact ⟨rfl, below_then HB2.out hb3 HB2.out.size⟩
  | true =>
    obtain ⟨hsz, hsl⟩ := fewB_true (by decide) (by decide) hf
    have HSZ := Lib.hid hsz; clear hsz
    clear hf
    go_wp2_with fail
    refine (few_any l L0 lc 20 600 w2 (by decide) (by decide) (HRL0.out w2 HB2.out)).mono ?_
    rintro e w3 ⟨rfl, hl3⟩
    have HB3 := Lib.hid (below_then HB2.out hl3.below HB2.out.size); clear hl3 HB2
    cases hf : decide ((l.length : Int) ≤ 20 ∧ 0 ≤ Tm.lefts l 600) with
    | false =>
      clear hf
      go_wp2_with fail
      refine (AWK.out w3 HB3.out).mono ?_
      rintro e w4 ⟨rfl, hb4⟩
      go_wp2_with fail
      go_ret
      exact ⟨rfl, below_then HB3.out hb4 HB3.out.size⟩
    | true =>
      obtain ⟨hlz, hll⟩ := fewT_true (by decide) (by decide) hf
      have HLZ := Lib.hid hlz; clear hlz
      clear hf AWK
      go_wp2_with fail
      refine (own_any s S0 sc w3 HSZ.out (by omega) (HRS0.out w3 HB3.out)).mono ?_
      rintro e w4 ⟨A4, c4, rfl, hr4, hb4⟩
      have HB4 := Lib.hid (below_then HB3.out hb4 HB3.out.size); clear hb4 HB3
      have HCP : Hid (∀ Z, Below w4.heap.size w4 Z → RepB Z (fun b => b < Z.heap.size) s A4 c4) := Lib.hid fun Z h => hr4.go h h.size
      have hcs := hr4.1
      have hcm := hr4.2.1
      unfold maxLen at hcm
      clear hr4
      obtain ⟨haz, hal⟩ := allE_size s l
      have HAZ := Lib.hid haz; clear haz
      have SA := sall_any s l S0 L0 sc lc w4 HSZ.out HLZ.out (HRS0.out w4 HB4.out) (HRL0.out w4 HB4.out)
      have RA : Hid (∀ Z, Below w4.heap.size w4 Z → Calls Tryd.prog 26 #[.slice A4 s.length c4, .slice L0 l.length lc] Z (Alled (allE s l) Z)) := Lib.hid fun Z h =>
        rallS_any s l A4 L0 c4 lc Z HSZ.out HLZ.out (HCP.out Z h) (HRL0.out Z (below_then HB4.out h HB4.out.size))
      generalize allE s l = r at *
      obtain ⟨ra, rn⟩ := r
      have SA := Lib.hid SA
      have hn : (rn == rn) = true := beq_self_eq_true rn
      have hn2 : (rn != rn) = false := by simp
      dsimp only at hal
      go_wp2_with fail
      refine SA.out.mono ?_; clear SA
      rintro e w5 ⟨A5, c5, rfl, hr5, hb5⟩
      have HB5 := Lib.hid (below_then HB4.out hb5 HB4.out.size)
      have HC5 := Lib.hid hb5; clear hb5
      dsimp only at hr5 ⊢
      have HR5 := Lib.hid hr5; clear hr5
      go_wp2_with fail
      refine (RA.out w5 HC5.out).mono ?_; clear RA
      rintro e w6 ⟨A6, c6, rfl, hr6, hb6⟩
      have HB6 := Lib.hid (below_then HB5.out hb6 HB5.out.size)
      have HC6 := Lib.hid (below_then HC5.out hb6 HC5.out.size)
      dsimp only at hr6 ⊢
      have LI := lists_any ra ra A5 A6 c5 c6 w6 HAZ.out HAZ.out (by omega) (by omega) (RepS.up (HR5.out.below hb6) hb6.size) hr6
      rw [Tm.sames_iff.2 rfl] at LI
      have LI := Lib.hid LI; clear HR5 hr6 hb6 HB5 HC5
      go_wp2_with fail
      refine LI.out.mono ?_; clear LI
      rintro e w7 ⟨rfl, hl7⟩
      have HB7 := Lib.hid (below_then HB6.out hl7.below HB6.out.size)
      have HC7 := Lib.hid (below_then HC6.out hl7.below HC6.out.size); clear hl7 HB6 HC6
      go_wp2_with fail
      refine (rsvalid_any s A4 c4 w7 HSZ.out (HCP.out w7 HC7.out)).mono ?_
      rintro e w8 ⟨rfl, hl8⟩
      have HB8 := Lib.hid (below_then HB7.out hl8.below HB7.out.size)
      have HC8 := Lib.hid (below_then HC7.out hl8.below HC7.out.size); clear hl8 HB7 HC7
      rcases eq_facts (validS s) 0 with ⟨h0, e0, n0⟩ | ⟨h0, e0, n0⟩
      · go_wp2_with fail
        refine (rsameB_any s s S0 A4 sc c4 w8 HSZ.out HSZ.out (HRS0.out w8 HB8.out) (HCP.out w8 HC8.out)).mono ?_
        rintro e w9 ⟨rfl, hl9⟩
        rw [decide_eq_true rfl]
        have HB9 := Lib.hid (below_then HB8.out hl9.below HB8.out.size)
        have HC9 := Lib.hid (below_then HC8.out hl9.below HC8.out.size); clear hl9 HB8 HC8
        go_wp2_with fail
        go_loopw [65] (fun i wr => ∃ k : Nat, k ≤ l.length ∧ i = .int .i64 k ∧ Hid (Below w.heap.size w wr) ∧ Hid (Below w4.heap.size w4 wr)) (fun i _ => l.length - (intOf i).toNat)
        case atStart => exact ⟨0, Nat.zero_le _, rfl, HB9, HC9⟩
        case round =>
          obtain ⟨k, hk, rfl, HBW, HCW⟩ := hrel
          have i1 : (0 : Int) ≤ (k : Int) := Int.natCast_nonneg _
          by_cases hlt : k < l.length
          · have i2 : (k : Int) < (l.length : Int) := by omega
            rcases HRLP.out with h | ⟨kb, off, hL0, hbB, -⟩
            · rw [h] at hlt; simp at hlt
            rcases (HRL0.out wr HBW.out).2.2 with h | ⟨kb', off', hL0', -, hl⟩
            · rw [h] at hlt; simp at hlt
            subst hL0
            simp only [Option.some.injEq, Addr.mk.injEq, and_true] at hL0'
            obtain ⟨rfl, rfl⟩ := hL0'
            obtain ⟨A, c, a0, a1, a2, a3, hra⟩ := hl.get k hlt
            have ht := HLZ.out l[k] (List.getElem_mem hlt)
            obtain ⟨V, hV⟩ : ∃ V, V = wr.alloc (boxOf l[k] A c) := ⟨_, rfl⟩
            have hB : Below wr.heap.size wr V := by rw [hV]; exact below1 (Nat.le_refl _) _
            have hX : BoxT V wr.heap.size l[k] A c := by rw [hV]; exact BoxT.new hra
            have HVW := Lib.hid (below_then HBW.out hB HBW.out.size)
            have HVC := Lib.hid (below_then HCW.out hB HCW.out.size)
            have AP := sApply_any s S0 sc HSZ.out l[k] A c V ht (HRS0.out V HVW.out) hX.2
            have RP : Hid (∀ Z, Below V.heap.size V Z → Calls Tryd.prog 28 #[.slice A4 s.length c4, l[k].val A c] Z (RApplied Z.heap.size (ApplyE s l[k]) Z)) := Lib.hid fun Z h =>
              rApply_any Z.heap.size s A4 c4 HSZ.out l[k] A c Z ht (Nat.le_refl _) (HCP.out Z (below_then HVC.out h HVC.out.size)) (hX.below h).2
            have hus := ApplyE_size s l[k]
            generalize ApplyE s l[k] = q at *
            obtain ⟨u, n⟩ := q
            have m1 : (n == n) = true := beq_self_eq_true n
            have m2 : (n != n) = false := by simp
            have AP := Lib.hid AP
            obtain ⟨x0, x1, x2, x3, -⟩ := box_at hX.1
            have HX := Lib.hid hX; clear hX hl hra hB
            simp only [boxOf] at hV
            have HV := Lib.hid hV; clear hV
            simp only [Tm.val] at AP RP
            dsimp only at hus
            go_wp2_with fail
            rw [← HV.out]
            go_wp2_with fail
            refine AP.out.mono ?_; clear AP a0 a1 a2 a3 x0 x1 x2 x3 HV
            rintro e w9 ⟨A9, c9, rfl, hr9, hb9⟩
            obtain ⟨X, hX⟩ : ∃ X, X = w9.alloc (boxOf u A9 c9) := ⟨_, rfl⟩
            have hb9X : Below w9.heap.size w9 X := by rw [hX]; exact below1 (Nat.le_refl _) _
            have hU : BoxT X w9.heap.size u A9 c9 := by rw [hX]; exact BoxT.new (RepP.mono (fun b h => h.2) (fun _ _ => rfl) _ _ _ hr9)
            have hVX := below_then hb9 hb9X hb9.size
            have hK := HX.out.below hVX
            have RP := Lib.hid (RP.out X hVX)
            have HXW := Lib.hid (below_then HVW.out hVX HVW.out.size)
            have HXC := Lib.hid (below_then HVC.out hVX HVC.out.size); clear hVX hb9 hb9X hr9 HX HVW HVC
            obtain ⟨x0, x1, x2, x3, -⟩ := box_at hK.1
            have HU := Lib.hid hU; clear hU
            simp only [boxOf] at hX
            rw [hX] at x0 x1 x2 x3
            have HX := Lib.hid hX; clear hX hK
            simp only [Tm.val]
            go_wp2_with fail
            rw [← HX.out]
            refine RP.out.mono ?_; clear RP x0 x1 x2 x3 HX
            rintro e w10 ⟨A10, c10, rfl, hr10, hb10⟩
            obtain ⟨X, hX⟩ : ∃ X, X = w10.alloc (boxOf u A10 c10) := ⟨_, rfl⟩
            have hb10X : Below w10.heap.size w10 X := by rw [hX]; exact below1 (Nat.le_refl _) _
            have hU2 : BoxT X w10.heap.size u A10 c10 := by rw [hX]; exact BoxT.new (RepP.mono (fun b h => by have := hb10.size; rcases h with h | ⟨_, h⟩ <;> omega) (fun _ _ => rfl) _ _ _ hr10)
            have hVX := below_then hb10 hb10X hb10.size
            have hK := HU.out.below hVX
            have SM := rsame_any u u A9 A10 c9 c10 X hus hus hK.2 hU2.2
            rw [Tm.same_iff.2 rfl] at SM
            have SM := Lib.hid SM
            have HYW := Lib.hid (below_then HXW.out hVX HXW.out.size)
            have HYC := Lib.hid (below_then HXC.out hVX HXC.out.size); clear hVX hb10 hb10X hr10 HXW HXC HU
            obtain ⟨x0, x1, x2, x3, -⟩ := box_at hK.1
            obtain ⟨y0, y1, y2, y3, -⟩ := box_at hU2.1
            simp only [boxOf] at hX
            rw [hX] at x0 x1 x2 x3 y0 y1 y2 y3
            have HX := Lib.hid hX; clear hX hK hU2
            simp only [Tm.val] at SM ⊢
            go_wp2_with fail
            rw [← HX.out]
            refine SM.out.mono ?_; clear SM x0 x1 x2 x3 y0 y1 y2 y3 HX
            rintro e w11 ⟨rfl, hl11⟩
            go_wp2_with fail
            go_roundw
            case rel => exact ⟨k + 1, by omega, by go_num, below_then HYW.out hl11.below HYW.out.size, below_then HYC.out hl11.below HYC.out.size⟩
            case measure => simp [intOf]; omega
          · obtain rfl : k = l.length := by omega
            go_wp2_with fail
            go_ret
            exact ⟨rfl, HBW.out⟩
      · go_wp2_with fail
        go_loopw [65] (fun i wr => ∃ k : Nat, k ≤ l.length ∧ i = .int .i64 k ∧ Hid (Below w.heap.size w wr) ∧ Hid (Below w4.heap.size w4 wr)) (fun i _ => l.length - (intOf i).toNat)
        case atStart => exact ⟨0, Nat.zero_le _, rfl, HB8, HC8⟩
        case round =>
          obtain ⟨k, hk, rfl, HBW, HCW⟩ := hrel
          have i1 : (0 : Int) ≤ (k : Int) := Int.natCast_nonneg _
          by_cases hlt : k < l.length
          · have i2 : (k : Int) < (l.length : Int) := by omega
            rcases HRLP.out with h | ⟨kb, off, hL0, hbB, -⟩
            · rw [h] at hlt; simp at hlt
            rcases (HRL0.out wr HBW.out).2.2 with h | ⟨kb', off', hL0', -, hl⟩
            · rw [h] at hlt; simp at hlt
            subst hL0
            simp only [Option.some.injEq, Addr.mk.injEq, and_true] at hL0'
            obtain ⟨rfl, rfl⟩ := hL0'
            obtain ⟨A, c, a0, a1, a2, a3, hra⟩ := hl.get k hlt
            have ht := HLZ.out l[k] (List.getElem_mem hlt)
            obtain ⟨V, hV⟩ : ∃ V, V = wr.alloc (boxOf l[k] A c) := ⟨_, rfl⟩
            have hB : Below wr.heap.size wr V := by rw [hV]; exact below1 (Nat.le_refl _) _
            have hX : BoxT V wr.heap.size l[k] A c := by rw [hV]; exact BoxT.new hra
            have HVW := Lib.hid (below_then HBW.out hB HBW.out.size)
            have HVC := Lib.hid (below_then HCW.out hB HCW.out.size)
            have AP := sApply_any s S0 sc HSZ.out l[k] A c V ht (HRS0.out V HVW.out) hX.2
            have RP : Hid (∀ Z, Below V.heap.size V Z → Calls Tryd.prog 28 #[.slice A4 s.length c4, l[k].val A c] Z (RApplied Z.heap.size (ApplyE s l[k]) Z)) := Lib.hid fun Z h =>
              rApply_any Z.heap.size s A4 c4 HSZ.out l[k] A c Z ht (Nat.le_refl _) (HCP.out Z (below_then HVC.out h HVC.out.size)) (hX.below h).2
            have hus := ApplyE_size s l[k]
            generalize ApplyE s l[k] = q at *
            obtain ⟨u, n⟩ := q
            have m1 : (n == n) = true := beq_self_eq_true n
            have m2 : (n != n) = false := by simp
            have AP := Lib.hid AP
            obtain ⟨x0, x1, x2, x3, -⟩ := box_at hX.1
            have HX := Lib.hid hX; clear hX hl hra hB
            simp only [boxOf] at hV
            have HV := Lib.hid hV; clear hV
            simp only [Tm.val] at AP RP
            dsimp only at hus
            go_wp2_with fail
            rw [← HV.out]
            go_wp2_with fail
            refine AP.out.mono ?_; clear AP a0 a1 a2 a3 x0 x1 x2 x3 HV
            rintro e w9 ⟨A9, c9, rfl, hr9, hb9⟩
            obtain ⟨X, hX⟩ : ∃ X, X = w9.alloc (boxOf u A9 c9) := ⟨_, rfl⟩
            have hb9X : Below w9.heap.size w9 X := by rw [hX]; exact below1 (Nat.le_refl _) _
            have hU : BoxT X w9.heap.size u A9 c9 := by rw [hX]; exact BoxT.new (RepP.mono (fun b h => h.2) (fun _ _ => rfl) _ _ _ hr9)
            have hVX := below_then hb9 hb9X hb9.size
            have hK := HX.out.below hVX
            have RP := Lib.hid (RP.out X hVX)
            have HXW := Lib.hid (below_then HVW.out hVX HVW.out.size)
            have HXC := Lib.hid (below_then HVC.out hVX HVC.out.size); clear hVX hb9 hb9X hr9 HX HVW HVC
            obtain ⟨x0, x1, x2, x3, -⟩ := box_at hK.1
            have HU := Lib.hid hU; clear hU
            simp only [boxOf] at hX
            rw [hX] at x0 x1 x2 x3
            have HX := Lib.hid hX; clear hX hK
            simp only [Tm.val]
            go_wp2_with fail
            rw [← HX.out]
            refine RP.out.mono ?_; clear RP x0 x1 x2 x3 HX
            rintro e w10 ⟨A10, c10, rfl, hr10, hb10⟩
            obtain ⟨X, hX⟩ : ∃ X, X = w10.alloc (boxOf u A10 c10) := ⟨_, rfl⟩
            have hb10X : Below w10.heap.size w10 X := by rw [hX]; exact below1 (Nat.le_refl _) _
            have hU2 : BoxT X w10.heap.size u A10 c10 := by rw [hX]; exact BoxT.new (RepP.mono (fun b h => by have := hb10.size; rcases h with h | ⟨_, h⟩ <;> omega) (fun _ _ => rfl) _ _ _ hr10)
            have hVX := below_then hb10 hb10X hb10.size
            have hK := HU.out.below hVX
            have SM := rsame_any u u A9 A10 c9 c10 X hus hus hK.2 hU2.2
            rw [Tm.same_iff.2 rfl] at SM
            have SM := Lib.hid SM
            have HYW := Lib.hid (below_then HXW.out hVX HXW.out.size)
            have HYC := Lib.hid (below_then HXC.out hVX HXC.out.size); clear hVX hb10 hb10X hr10 HXW HXC HU
            obtain ⟨x0, x1, x2, x3, -⟩ := box_at hK.1
            obtain ⟨y0, y1, y2, y3, -⟩ := box_at hU2.1
            simp only [boxOf] at hX
            rw [hX] at x0 x1 x2 x3 y0 y1 y2 y3
            have HX := Lib.hid hX; clear hX hK hU2
            simp only [Tm.val] at SM ⊢
            go_wp2_with fail
            rw [← HX.out]
            refine SM.out.mono ?_; clear SM x0 x1 x2 x3 y0 y1 y2 y3 HX
            rintro e w11 ⟨rfl, hl11⟩
            go_wp2_with fail
            go_roundw
            case rel => exact ⟨k + 1, by omega, by go_num, below_then HYW.out hl11.below HYW.out.size, below_then HYC.out hl11.below HYC.out.size⟩
            case measure => simp [intOf]; omega
          · obtain rfl : k = l.length := by omega
            go_wp2_with fail
            go_ret
            exact ⟨rfl, HBW.out⟩
end Go.Proofs.YtkbkgiihgghbeaaDoor
