/- CastOwns, walked. -/
import Derived.Test.YtpjmdilpldaapaaDoorClist
namespace Go.Proofs.YtpjmdilpldaapaaDoor
open Go.RowKit Go.Sort

attribute [local irreducible] wpMix4
set_option linter.unusedSimpArgs false in
set_option linter.unusedVariables false in
set_option maxHeartbeats 4000000 in
set_option maxRecDepth 100000 in
theorem castOwns_law (ags bad : List ByteArray) (Aa Ab : Option Addr) (ca cb : Nat) (x : ByteArray) (w : World) (hc : CastW w ags bad Aa ca Ab cb) (hroom : (ags.length + bad.length) * 16 ≤ 140737488355328) (hx : x.size ≤ maxLen) :
    Calls Tryd.prog 8 #[castV ags bad Aa ca Ab cb, .string x] w fun e w' => e = .returned (.bool true) ∧ Below w.heap.size w w' := by
  have mixed : Tryd.prog.follows .mixedOrders = true := by kernel_rfl
  obtain ⟨V, hV⟩ : ∃ V, V = w.alloc (.cells #[.slice Aa ags.length ca, .slice Ab bad.length cb] 24) := ⟨_, rfl⟩
  have hbV : Below w.heap.size w V := by rw [hV]; exact below1 (Nat.le_refl _) _
  have CB0 : Hid (CBox V w.heap.size ags bad Aa ca Ab cb) := Lib.hid ⟨by rw [hV]; exact heap_alloc_new _ _, hc.below hbV⟩
  have HBV := Lib.hid hbV; have HV := Lib.hid hV
  clear hbV hV hc
  unfold castV
  go_enter Tryd.func8, Tryd.ntmps8
  go_wp2_with fail
  rw [← HV.out]
  refine (cawake_any V).mono ?_
  rintro e w1 ⟨rfl, hb1⟩
  have CB1 := Lib.hid (CB0.out.go hb1)
  have HB1 := Lib.hid (below_then HBV.out hb1 HBV.out.size)
  obtain ⟨a0, a1, -⟩ := boxC_cells CB1.out.box
  have HFW := Lib.hid (fewC_any ags bad Aa Ab ca cb w1 CB1.out.cast hroom)
  (try simp only [castV] at HFW)
  clear CB0 HBV HV hb1
  go_wp2_with fail
  refine HFW.out.mono ?_; clear HFW
  rintro e w2 ⟨rfl, hb2⟩
  have CB := Lib.hid (CB1.out.go hb2)
  have HB := Lib.hid (below_then HB1.out hb2 HB1.out.size)
  clear CB1 HB1 hb2 a0 a1
  cases hfew : fewC ags bad with
  | false =>
    go_wp2_with fail
    refine (cawake_any w2).mono ?_
    rintro e w3 ⟨rfl, hb3⟩
    go_wp2_with fail
    go_ret
    exact ⟨rfl, below_then HB.out hb3 HB.out.size⟩
  | true =>
    obtain ⟨a0, a1, -⟩ := boxC_cells CB.out.box
    obtain ⟨E, hE⟩ : ∃ E, E = ownEr ags bad x := ⟨_, rfl⟩
    obtain ⟨L, hL⟩ : ∃ L, L = ownL ags bad x := ⟨_, rfl⟩
    have HSL : Hid (SmallL L) := Lib.hid (by rw [hL]; exact ownL_small _ _ _)
    have HX := Lib.hid hx
    have HE := Lib.hid hE; have HL := Lib.hid hL
    clear hE hL hx
    have HCC := Lib.hid (cownS HE.out HL.out CB.out.cast HX.out)
    (try simp only [castV, Tm.val] at HCC)
    go_wp2_with fail
    refine HCC.out.mono ?_; clear HCC
    rintro e w3 ⟨A3, c3, rfl, hS3, hb3⟩
    have CBN := Lib.hid (CB.out.go hb3)
    have HBN := Lib.hid (below_then HB.out hb3 HB.out.size)
    have S3 := Lib.hid (hS3)
    clear CB HB a0 a1
    have CB := CBN
    have HB := HBN
    clear CBN HBN
    clear hb3
    obtain ⟨a0, a1, -⟩ := boxC_cells CB.out.box
    clear hS3
    have HCC := Lib.hid (rownS HE.out HL.out CB.out.cast HX.out)
    (try simp only [castV, Tm.val] at HCC)
    go_wp2_with fail
    refine HCC.out.mono ?_; clear HCC
    rintro e w4 ⟨A4, c4, rfl, hS4, hb4⟩
    have CBN := Lib.hid (CB.out.go hb4)
    have HBN := Lib.hid (below_then HB.out hb4 HB.out.size)
    have S3N := Lib.hid (S3.out.fwd hb4)
    have S4 := Lib.hid (hS4)
    clear CB HB S3 a0 a1
    have CB := CBN
    have HB := HBN
    have S3 := S3N
    clear CBN HBN S3N
    clear hb4
    obtain ⟨a0, a1, -⟩ := boxC_cells CB.out.box
    clear hS4
    have hnE : (E != E) = false := bne_self_eq_false E
    have HCC := Lib.hid (lists_same L A3 A4 c3 c4 w4 HSL.out S3.out S4.out)
    (try simp only [castV, Tm.val] at HCC)
    go_wp2_with fail
    refine HCC.out.mono ?_; clear HCC
    rintro e w5 ⟨rfl, hb5⟩
    have CBN := Lib.hid (CB.out.go hb5)
    have HBN := Lib.hid (below_then HB.out hb5 HB.out.size)
    have S3N := Lib.hid (S3.out.fwd hb5)
    clear CB HB S3 a0 a1
    have CB := CBN
    have HB := HBN
    have S3 := S3N
    clear CBN HBN S3N
    clear hb5
    obtain ⟨a0, a1, -⟩ := boxC_cells CB.out.box
    by_cases h0 : E = 0
    · have hO := own_one (HE.out.symm.trans h0)
      subst h0
      have HO1 := Lib.hid hO.1
      have HO2 : Hid (L = initE ags [x]) := Lib.hid (HL.out.trans hO.2)
      clear hO HE HL hnE S4
      go_wp2_with fail
      obtain ⟨Z, hZ⟩ : ∃ Z, Z = w5.alloc (.cells #[.string x] 9) := ⟨_, rfl⟩
      rw [← hZ]
      have hbZ : Below w5.heap.size w5 Z := by rw [hZ]; exact below1 (Nat.le_refl _) _
      have HC6 : Hid (CastW Z ags [x] Aa ca (some ⟨w5.heap.size, 0, none⟩) 1) := Lib.hid ⟨CB.out.cast.a.fwd hbZ, one_str HX.out hZ⟩
      clear hZ
      have CBN := Lib.hid (CB.out.go hbZ)
      have HBN := Lib.hid (below_then HB.out hbZ HB.out.size)
      have S3N := Lib.hid (S3.out.fwd hbZ)
      clear CB HB S3 a0 a1
      have CB := CBN
      have HB := HBN
      have S3 := S3N
      clear CBN HBN S3N
      clear hbZ
      obtain ⟨a0, a1, -⟩ := boxC_cells CB.out.box
      have HCC := Lib.hid (cinitS HO1.out HO2.out HC6.out)
      (try simp only [castV, Tm.val] at HCC)
      go_wp2_with fail
      refine HCC.out.mono ?_; clear HCC
      rintro e w7 ⟨A7, c7, rfl, hS7, hb7⟩
      have CBN := Lib.hid (CB.out.go hb7)
      have HBN := Lib.hid (below_then HB.out hb7 HB.out.size)
      have S3N := Lib.hid (S3.out.fwd hb7)
      have S7 := Lib.hid (hS7)
      clear CB HB S3 a0 a1
      have CB := CBN
      have HB := HBN
      have S3 := S3N
      clear CBN HBN S3N
      clear hb7
      obtain ⟨a0, a1, -⟩ := boxC_cells CB.out.box
      clear hS7
      have HCC := Lib.hid (lists_same L A3 A7 c3 c7 w7 HSL.out S3.out S7.out)
      (try simp only [castV, Tm.val] at HCC)
      go_wp2_with fail
      refine HCC.out.mono ?_; clear HCC
      rintro e w8 ⟨rfl, hb8⟩
      have CBN := Lib.hid (CB.out.go hb8)
      have HBN := Lib.hid (below_then HB.out hb8 HB.out.size)
      clear CB HB a0 a1
      have CB := CBN
      have HB := HBN
      clear CBN HBN
      clear hb8
      obtain ⟨a0, a1, -⟩ := boxC_cells CB.out.box
      go_wp2_with fail
      go_ret
      exact ⟨rfl, HB.out⟩
    · have hn0 : (E != 0) = true := by rw [bne_iff_ne]; exact h0
      clear hnE S4 HE HL
      go_wp2_with fail
      go_ret
      exact ⟨rfl, HB.out⟩
end Go.Proofs.YtpjmdilpldaapaaDoor
