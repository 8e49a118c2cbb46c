/- CastKnows, walked. -/
import Derived.Test.YtpjmdilpldaapaaDoorClist
namespace Go.Proofs.YtpjmdilpldaapaaDoor
open Go.RowKit Go.Sort

attribute [local irreducible] wpMix4
set_option linter.unusedSimpArgs false in
set_option linter.unusedVariables false in
set_option maxHeartbeats 4000000 in
set_option maxRecDepth 100000 in
theorem castKnows_law (ags bad : List ByteArray) (Aa Ab : Option Addr) (ca cb : Nat) (w : World) (hc : CastW w ags bad Aa ca Ab cb) (hroom : (ags.length + bad.length) * 16 ≤ 140737488355328) :
    Calls Tryd.prog 7 #[castV ags bad Aa ca Ab cb] w fun e w' => e = .returned (.bool true) ∧ Below w.heap.size w w' := by
  have mixed : Tryd.prog.follows .mixedOrders = true := by kernel_rfl
  obtain ⟨V, hV⟩ : ∃ V, V = w.alloc (.cells #[.slice Aa ags.length ca, .slice Ab bad.length cb] 24) := ⟨_, rfl⟩
  have hbV : Below w.heap.size w V := by rw [hV]; exact below1 (Nat.le_refl _) _
  have CB0 : Hid (CBox V w.heap.size ags bad Aa ca Ab cb) := Lib.hid ⟨by rw [hV]; exact heap_alloc_new _ _, hc.below hbV⟩
  have HBV := Lib.hid hbV; have HV := Lib.hid hV
  clear hbV hV hc
  unfold castV
  go_enter Tryd.func7, Tryd.ntmps7
  go_wp2_with fail
  rw [← HV.out]
  refine (cawake_any V).mono ?_
  rintro e w1 ⟨rfl, hb1⟩
  have CB1 := Lib.hid (CB0.out.go hb1)
  have HB1 := Lib.hid (below_then HBV.out hb1 HBV.out.size)
  obtain ⟨a0, a1, -⟩ := boxC_cells CB1.out.box
  have HFW := Lib.hid (fewC_any ags bad Aa Ab ca cb w1 CB1.out.cast hroom)
  (try simp only [castV] at HFW)
  clear CB0 HBV HV hb1
  go_wp2_with fail
  refine HFW.out.mono ?_; clear HFW
  rintro e w2 ⟨rfl, hb2⟩
  have CB := Lib.hid (CB1.out.go hb2)
  have HB := Lib.hid (below_then HB1.out hb2 HB1.out.size)
  clear CB1 HB1 hb2 a0 a1
  cases hfew : fewC ags bad with
  | false =>
    go_wp2_with fail
    refine (cawake_any w2).mono ?_
    rintro e w3 ⟨rfl, hb3⟩
    go_wp2_with fail
    go_ret
    exact ⟨rfl, below_then HB.out hb3 HB.out.size⟩
  | true =>
    obtain ⟨a0, a1, -⟩ := boxC_cells CB.out.box
    obtain ⟨E, hE⟩ : ∃ E, E = castE ags bad := ⟨_, rfl⟩
    obtain ⟨L, hL⟩ : ∃ L, L = initE ags bad := ⟨_, rfl⟩
    obtain ⟨KK, hKK⟩ : ∃ KK, KK = keysE ags bad := ⟨_, rfl⟩
    have HSL : Hid (SmallL L) := Lib.hid (by rw [hL]; exact initE_small _ _)
    have HSK : Hid (SmallL KK) := Lib.hid (by rw [hKK]; exact keysE_small _ _)
    have HE := Lib.hid hE; have HL := Lib.hid hL; have HKK := Lib.hid hKK
    clear hE hL hKK
    have HCC := Lib.hid (cinitS HE.out HL.out CB.out.cast)
    (try simp only [castV, Tm.val] at HCC)
    go_wp2_with fail
    refine HCC.out.mono ?_; clear HCC
    rintro e w3 ⟨A3, c3, rfl, hS3, hb3⟩
    have CBN := Lib.hid (CB.out.go hb3)
    have HBN := Lib.hid (below_then HB.out hb3 HB.out.size)
    have S3 := Lib.hid (hS3)
    clear CB HB a0 a1
    have CB := CBN
    have HB := HBN
    clear CBN HBN
    clear hb3
    obtain ⟨a0, a1, -⟩ := boxC_cells CB.out.box
    clear hS3
    have HCC := Lib.hid (rinitS HE.out HL.out CB.out.cast)
    (try simp only [castV, Tm.val] at HCC)
    go_wp2_with fail
    refine HCC.out.mono ?_; clear HCC
    rintro e w4 ⟨A4, c4, rfl, hS4, hb4⟩
    have CBN := Lib.hid (CB.out.go hb4)
    have HBN := Lib.hid (below_then HB.out hb4 HB.out.size)
    have S3N := Lib.hid (S3.out.fwd hb4)
    have S4 := Lib.hid (hS4)
    clear CB HB S3 a0 a1
    have CB := CBN
    have HB := HBN
    have S3 := S3N
    clear CBN HBN S3N
    clear hb4
    obtain ⟨a0, a1, -⟩ := boxC_cells CB.out.box
    clear hS4
    go_wp2_with fail
    refine wp_region_mix4 (fun _ => True) (fun Y => Below w4.drew.heap.size w4.drew Y) [] (.held 0 (.held 1 (.held 2 (.held 3 (.held 4 (.held 5 (.op 6 (.held 7 (.held 8 (.held 9 (.held 11 (.op 10 (.op 12 (.op 13 (.held 14 (.held 15 .nil)))))))))))))))) mixed (by kernel_rfl) ?_
    have CBN := Lib.hid (CB.out.go (Below.refl w4.heap.size w4).drew)
    have HBN := Lib.hid (below_then HB.out (Below.refl w4.heap.size w4).drew HB.out.size)
    have S3N := Lib.hid (S3.out.fwd (Below.refl w4.heap.size w4).drew)
    have S4N := Lib.hid (S4.out.fwd (Below.refl w4.heap.size w4).drew)
    clear CB HB S3 S4 a0 a1
    have CB := CBN
    have HB := HBN
    have S3 := S3N
    have S4 := S4N
    clear CBN HBN S3N S4N
    generalize w4.drew = D at *
    refine mix4_take (v := .int .i64 E) rfl rfl rfl (fun _ _ _ h => h) trivial (Below.refl D.heap.size D) (fun Y _ hY => by
      (try simp only [Act.put]); go_simp) ?_
    refine mix4_take (v := .int .i64 E) rfl rfl rfl (fun _ _ _ h => h) trivial (Below.refl D.heap.size D) (fun Y _ hY => by
      (try simp only [Act.put]); go_simp) ?_
    refine mix4_take (v := .bool true) rfl rfl rfl (fun _ _ _ h => h) trivial (Below.refl D.heap.size D) (fun Y _ hY => by
      (try simp only [Act.put]); go_simp) ?_
    refine mix4_take (v := .bool true) rfl rfl rfl (fun _ _ _ h => h) trivial (Below.refl D.heap.size D) (fun Y _ hY => by
      (try simp only [Act.put]); go_simp) ?_
    (try simp only [Act.put, List.setIfInBounds_toArray, List.set_cons_succ, List.set_cons_zero, List.getElem_toArray, List.getElem_cons_succ, List.getElem_cons_zero])
    refine mix5_take_g (v := .slice A3 L.length c3) rfl (by kernel_rfl) rfl (fun _ _ _ h => h) trivial (Below.refl D.heap.size D) (fun Y _ hY => by
      (try simp only [Act.put]); go_simp) ?_
    (try simp only [Act.put, List.setIfInBounds_toArray, List.set_cons_succ, List.set_cons_zero, List.getElem_toArray, List.getElem_cons_succ, List.getElem_cons_zero])
    refine mix5_take_g (v := .slice A4 L.length c4) rfl (by kernel_rfl) rfl (fun _ _ _ h => h) trivial (Below.refl D.heap.size D) (fun Y _ hY => by
      (try simp only [Act.put]); go_simp) ?_
    (try simp only [Act.put, List.setIfInBounds_toArray, List.set_cons_succ, List.set_cons_zero, List.getElem_toArray, List.getElem_cons_succ, List.getElem_cons_zero])
    (try simp only [Act.put, List.setIfInBounds_toArray, List.set_cons_succ, List.set_cons_zero, List.getElem_toArray, List.getElem_cons_succ, List.getElem_cons_zero])
    refine mix4_op_g rfl (by kernel_rfl) (fun K hK => ?_)
    have HCC := Lib.hid (lists_same L A3 A4 c3 c4 D HSL.out (S3.out.fwd (Below.refl D.heap.size D)) (S4.out.fwd (Below.refl D.heap.size D)))
    (try simp only [castV, Tm.val] at HCC)
    go_wp2_with fail
    refine HCC.out.mono ?_; clear HCC
    rintro e y6 ⟨rfl, hl6⟩
    have HB6 := Lib.hid (Below.trans (Below.refl D.heap.size D) (hl6.mono (Below.size (Below.refl D.heap.size D))))
    refine hK _ _ ⟨⟨fun _ => trivial, HB6.out⟩, ?_⟩
    clear hK K
    clear hl6
    refine mix4_take (v := .bool true) rfl rfl rfl (fun _ _ _ h => h) trivial HB6.out (fun Y _ hY => by
      (try simp only [Act.put]); go_simp) ?_
    refine mix4_take (v := .bool true) rfl rfl rfl (fun _ _ _ h => h) trivial HB6.out (fun Y _ hY => by
      (try simp only [Act.put]); go_simp) ?_
    (try simp only [Act.put, List.setIfInBounds_toArray, List.set_cons_succ, List.set_cons_zero, List.getElem_toArray, List.getElem_cons_succ, List.getElem_cons_zero])
    refine mix5_take_g (v := .agg #[.slice Aa ags.length ca, .slice Ab bad.length cb]) rfl (by kernel_rfl) rfl (fun _ _ _ h => h) trivial HB6.out (fun Y _ hY => by
      obtain ⟨z0, z1, -⟩ := boxC_cells (CB.out.go hY).box
      clear hY
      (try simp only [Act.put]); go_simp) ?_
    (try simp only [Act.put, List.setIfInBounds_toArray, List.set_cons_succ, List.set_cons_zero, List.getElem_toArray, List.getElem_cons_succ, List.getElem_cons_zero])
    refine mix5_take_g (v := .agg #[.slice Aa ags.length ca, .slice Ab bad.length cb]) rfl (by kernel_rfl) rfl (fun _ _ _ h => h) trivial HB6.out (fun Y _ hY => by
      obtain ⟨z0, z1, -⟩ := boxC_cells (CB.out.go hY).box
      clear hY
      (try simp only [Act.put]); go_simp) ?_
    (try simp only [Act.put, List.setIfInBounds_toArray, List.set_cons_succ, List.set_cons_zero, List.getElem_toArray, List.getElem_cons_succ, List.getElem_cons_zero])
    (try simp only [Act.put, List.setIfInBounds_toArray, List.set_cons_succ, List.set_cons_zero, List.getElem_toArray, List.getElem_cons_succ, List.getElem_cons_zero])
    refine mix4_op_g rfl (by kernel_rfl) (fun K hK => ?_)
    have HCC := Lib.hid (ckeysS HKK.out (CB.out.go HB6.out).cast)
    (try simp only [castV, Tm.val] at HCC)
    go_wp2_with fail
    refine HCC.out.mono ?_; clear HCC
    rintro e y10 ⟨A10, c10, rfl, hS10, hl10⟩
    have HB10 := Lib.hid (Below.trans HB6.out (hl10.mono (Below.size HB6.out)))
    refine hK _ _ ⟨⟨fun _ => trivial, HB10.out⟩, ?_⟩
    clear hK K
    have S10 := Lib.hid hS10
    clear hl10 hS10
    (try simp only [Act.put, List.setIfInBounds_toArray, List.set_cons_succ, List.set_cons_zero, List.getElem_toArray, List.getElem_cons_succ, List.getElem_cons_zero])
    refine mix4_op_g rfl (by kernel_rfl) (fun K hK => ?_)
    have HCC := Lib.hid (rckeysS HKK.out (CB.out.go HB10.out).cast)
    (try simp only [castV, Tm.val] at HCC)
    go_wp2_with fail
    refine HCC.out.mono ?_; clear HCC
    rintro e y12 ⟨A12, c12, rfl, hS12, hl12⟩
    have HB12 := Lib.hid (Below.trans HB10.out (hl12.mono (Below.size HB10.out)))
    refine hK _ _ ⟨⟨fun _ => trivial, HB12.out⟩, ?_⟩
    clear hK K
    have S12 := Lib.hid hS12
    have S11 := Lib.hid (S10.out.fwd hl12)
    clear hl12 hS12 S10
    (try simp only [Act.put, List.setIfInBounds_toArray, List.set_cons_succ, List.set_cons_zero, List.getElem_toArray, List.getElem_cons_succ, List.getElem_cons_zero])
    refine mix4_op_g rfl (by kernel_rfl) (fun K hK => ?_)
    have HCC := Lib.hid (lists_same KK A10 A12 c10 c12 y12 HSK.out S11.out S12.out)
    (try simp only [castV, Tm.val] at HCC)
    go_wp2_with fail
    refine HCC.out.mono ?_; clear HCC
    rintro e y13 ⟨rfl, hl13⟩
    have HB13 := Lib.hid (Below.trans HB12.out (hl13.mono (Below.size HB12.out)))
    refine hK _ _ ⟨⟨fun _ => trivial, HB13.out⟩, ?_⟩
    clear hK K
    clear hl13
    refine mix4_take (v := .bool true) rfl rfl rfl (fun _ _ _ h => h) trivial HB13.out (fun Y _ hY => by
      (try simp only [Act.put]); go_simp) ?_
    refine mix4_take (v := .bool true) rfl rfl rfl (fun _ _ _ h => h) trivial HB13.out (fun Y _ hY => by
      (try simp only [Act.put]); go_simp) ?_
    (try simp only [Act.put, List.setIfInBounds_toArray, List.set_cons_succ, List.set_cons_zero, List.getElem_toArray, List.getElem_cons_succ, List.getElem_cons_zero])
    (try simp only [Act.put, List.setIfInBounds_toArray, List.set_cons_succ, List.set_cons_zero, List.getElem_toArray, List.getElem_cons_succ, List.getElem_cons_zero])
    refine mix4_nil ?_
    go_wp2_with fail
    go_ret
    exact ⟨rfl, HB.out.trans (Below.mono HB13.out HB.out.size)⟩
end Go.Proofs.YtpjmdilpldaapaaDoor
