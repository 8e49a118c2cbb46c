/- CastValid, walked. -/
import Derived.Test.YtpjmdilpldaapaaDoorClaw0
namespace Go.Proofs.YtpjmdilpldaapaaDoor
open Go.RowKit Go.Sort

attribute [local irreducible] wpMix4
set_option linter.unusedSimpArgs false in
set_option linter.unusedVariables false in
set_option maxHeartbeats 4000000 in
set_option maxRecDepth 100000 in
theorem castValid_law (ags bad : List ByteArray) (Aa Ab : Option Addr) (ca cb : Nat) (x : ByteArray) (w : World) (hc : CastW w ags bad Aa ca Ab cb) (hroom : (ags.length + bad.length) * 16 ≤ 140737488355328) :
    Calls Tryd.prog 6 #[castV ags bad Aa ca Ab cb, .string x] w fun e w' => e = .returned (.bool true) ∧ Below w.heap.size w w' := by
  have mixed : Tryd.prog.follows .mixedOrders = true := by kernel_rfl
  obtain ⟨V, hV⟩ : ∃ V, V = w.alloc (.cells #[.slice Aa ags.length ca, .slice Ab bad.length cb] 24) := ⟨_, rfl⟩
  have hbV : Below w.heap.size w V := by rw [hV]; exact below1 (Nat.le_refl _) _
  have CB0 : Hid (CBox V w.heap.size ags bad Aa ca Ab cb) := Lib.hid ⟨by rw [hV]; exact heap_alloc_new _ _, hc.below hbV⟩
  have HBV := Lib.hid hbV; have HV := Lib.hid hV
  clear hbV hV hc
  unfold castV
  go_enter Tryd.func6, Tryd.ntmps6
  go_wp2_with fail
  rw [← HV.out]
  refine (cawake_any V).mono ?_
  rintro e w1 ⟨rfl, hb1⟩
  have CB1 := Lib.hid (CB0.out.go hb1)
  have HB1 := Lib.hid (below_then HBV.out hb1 HBV.out.size)
  obtain ⟨a0, a1, -⟩ := boxC_cells CB1.out.box
  have HFW := Lib.hid (fewC_any ags bad Aa Ab ca cb w1 CB1.out.cast hroom)
  (try simp only [castV] at HFW)
  clear CB0 HBV HV hb1
  go_wp2_with fail
  refine HFW.out.mono ?_; clear HFW
  rintro e w2 ⟨rfl, hb2⟩
  have CB := Lib.hid (CB1.out.go hb2)
  have HB := Lib.hid (below_then HB1.out hb2 HB1.out.size)
  clear CB1 HB1 hb2 a0 a1
  cases hfew : fewC ags bad with
  | false =>
    go_wp2_with fail
    refine (cawake_any w2).mono ?_
    rintro e w3 ⟨rfl, hb3⟩
    go_wp2_with fail
    go_ret
    exact ⟨rfl, below_then HB.out hb3 HB.out.size⟩
  | true =>
    obtain ⟨a0, a1, -⟩ := boxC_cells CB.out.box
    go_wp2_with fail
    refine wp_region_mix4 (fun _ => True) (fun Y => Below w2.drew.heap.size w2.drew Y) [] (.held 0 (.held 2 (.op 1 (.op 3 (.held 4 (.held 5 (.held 6 (.held 7 (.held 9 (.held 10 (.op 8 (.op 11 (.held 12 (.held 13 (.held 14 .nil))))))))))))))) mixed (by kernel_rfl) ?_
    have CBD := Lib.hid (CB.out.go (Below.refl w2.heap.size w2).drew)
    have HBD := Lib.hid (below_then HB.out (Below.refl w2.heap.size w2).drew HB.out.size)
    clear CB HB a0 a1
    have CB := CBD
    have HB := HBD
    clear CBD HBD
    generalize w2.drew = D at *
    refine mix4_take (v := .agg #[.slice Aa ags.length ca, .slice Ab bad.length cb]) rfl rfl rfl (fun _ _ _ h => h) trivial (Below.refl D.heap.size D) (fun Y _ hY => by
      obtain ⟨z0, z1, -⟩ := boxC_cells (CB.out.go hY).box
      clear hY
      (try simp only [Act.put]); go_simp) ?_
    refine mix4_take (v := .agg #[.slice Aa ags.length ca, .slice Ab bad.length cb]) rfl rfl rfl (fun _ _ _ h => h) trivial (Below.refl D.heap.size D) (fun Y _ hY => by
      obtain ⟨z0, z1, -⟩ := boxC_cells (CB.out.go hY).box
      clear hY
      (try simp only [Act.put]); go_simp) ?_
    (try simp only [Act.put, List.setIfInBounds_toArray, List.set_cons_succ, List.set_cons_zero, List.getElem_toArray, List.getElem_cons_succ, List.getElem_cons_zero])
    refine mix4_op rfl rfl (fun K hK => ?_)
    have HCC := Lib.hid (cvalid_any ags bad Aa Ab ca cb D (CB.out.go (Below.refl D.heap.size D)).cast)
    (try simp only [castV, Tm.val] at HCC)
    go_wp2_with fail
    refine HCC.out.mono ?_; clear HCC
    rintro e y1 ⟨rfl, hl1⟩
    have HB1 := Lib.hid (Below.trans (Below.refl D.heap.size D) (hl1.below.mono (Below.size (Below.refl D.heap.size D))))
    refine hK _ _ ⟨⟨fun _ => trivial, HB1.out⟩, ?_⟩
    clear hK K
    clear hl1
    (try simp only [Act.put, List.setIfInBounds_toArray, List.set_cons_succ, List.set_cons_zero, List.getElem_toArray, List.getElem_cons_succ, List.getElem_cons_zero])
    refine mix4_op rfl rfl (fun K hK => ?_)
    have HCC := Lib.hid (rcvalid_any ags bad Aa Ab ca cb y1 (CB.out.go HB1.out).cast)
    (try simp only [castV, Tm.val] at HCC)
    go_wp2_with fail
    refine HCC.out.mono ?_; clear HCC
    rintro e y3 ⟨rfl, hl3⟩
    have HB3 := Lib.hid (Below.trans HB1.out (hl3.below.mono (Below.size HB1.out)))
    refine hK _ _ ⟨⟨fun _ => trivial, HB3.out⟩, ?_⟩
    clear hK K
    clear hl3
    refine mix4_take (v := .bool true) rfl rfl rfl (fun _ _ _ h => h) trivial HB3.out (fun Y _ hY => by
      (try simp only [Act.put]); go_simp) ?_
    refine mix4_take (v := .bool true) rfl rfl rfl (fun _ _ _ h => h) trivial HB3.out (fun Y _ hY => by
      (try simp only [Act.put]); go_simp) ?_
    (try simp only [Act.put, List.setIfInBounds_toArray, List.set_cons_succ, List.set_cons_zero, List.getElem_toArray, List.getElem_cons_succ, List.getElem_cons_zero])
    refine mix5_take_g (v := .agg #[.slice Aa ags.length ca, .slice Ab bad.length cb]) rfl (by kernel_rfl) rfl (fun _ _ _ h => h) trivial HB3.out (fun Y _ hY => by
      obtain ⟨z0, z1, -⟩ := boxC_cells (CB.out.go hY).box
      clear hY
      (try simp only [Act.put]); go_simp) ?_
    (try simp only [Act.put, List.setIfInBounds_toArray, List.set_cons_succ, List.set_cons_zero, List.getElem_toArray, List.getElem_cons_succ, List.getElem_cons_zero])
    refine mix5_take_g (v := .string x) rfl (by kernel_rfl) rfl (fun _ _ _ h => h) trivial HB3.out (fun Y _ hY => by
      (try simp only [Act.put]); go_simp) ?_
    (try simp only [Act.put, List.setIfInBounds_toArray, List.set_cons_succ, List.set_cons_zero, List.getElem_toArray, List.getElem_cons_succ, List.getElem_cons_zero])
    refine mix5_take_g (v := .agg #[.slice Aa ags.length ca, .slice Ab bad.length cb]) rfl (by kernel_rfl) rfl (fun _ _ _ h => h) trivial HB3.out (fun Y _ hY => by
      obtain ⟨z0, z1, -⟩ := boxC_cells (CB.out.go hY).box
      clear hY
      (try simp only [Act.put]); go_simp) ?_
    (try simp only [Act.put, List.setIfInBounds_toArray, List.set_cons_succ, List.set_cons_zero, List.getElem_toArray, List.getElem_cons_succ, List.getElem_cons_zero])
    refine mix5_take_g (v := .string x) rfl (by kernel_rfl) rfl (fun _ _ _ h => h) trivial HB3.out (fun Y _ hY => by
      (try simp only [Act.put]); go_simp) ?_
    (try simp only [Act.put, List.setIfInBounds_toArray, List.set_cons_succ, List.set_cons_zero, List.getElem_toArray, List.getElem_cons_succ, List.getElem_cons_zero])
    (try simp only [Act.put, List.setIfInBounds_toArray, List.set_cons_succ, List.set_cons_zero, List.getElem_toArray, List.getElem_cons_succ, List.getElem_cons_zero])
    refine mix4_op_g rfl (by kernel_rfl) (fun K hK => ?_)
    have HCC := Lib.hid (chonest_any ags bad Aa Ab ca cb x y3 (CB.out.go HB3.out).cast)
    (try simp only [castV, Tm.val] at HCC)
    go_wp2_with fail
    refine HCC.out.mono ?_; clear HCC
    rintro e y8 ⟨rfl, hl8⟩
    have HB8 := Lib.hid (Below.trans HB3.out (hl8.below.mono (Below.size HB3.out)))
    refine hK _ _ ⟨⟨fun _ => trivial, HB8.out⟩, ?_⟩
    clear hK K
    clear hl8
    (try simp only [Act.put, List.setIfInBounds_toArray, List.set_cons_succ, List.set_cons_zero, List.getElem_toArray, List.getElem_cons_succ, List.getElem_cons_zero])
    refine mix4_op_g rfl (by kernel_rfl) (fun K hK => ?_)
    have HCC := Lib.hid (rchonest_any ags bad Aa Ab ca cb x y8 (CB.out.go HB8.out).cast)
    (try simp only [castV, Tm.val] at HCC)
    go_wp2_with fail
    refine HCC.out.mono ?_; clear HCC
    rintro e y11 ⟨rfl, hl11⟩
    have HB11 := Lib.hid (Below.trans HB8.out (hl11.below.mono (Below.size HB8.out)))
    refine hK _ _ ⟨⟨fun _ => trivial, HB11.out⟩, ?_⟩
    clear hK K
    clear hl11
    refine mix5_take_g (v := .bool true) rfl (by kernel_rfl) rfl (fun _ _ _ h => h) trivial HB11.out (fun Y _ hY => by
      (try simp only [Act.put]); go_simp) ?_
    (try simp only [Act.put, List.setIfInBounds_toArray, List.set_cons_succ, List.set_cons_zero, List.getElem_toArray, List.getElem_cons_succ, List.getElem_cons_zero])
    refine mix4_take (v := .bool true) rfl rfl rfl (fun _ _ _ h => h) trivial HB11.out (fun Y _ hY => by
      (try simp only [Act.put]); go_simp) ?_
    refine mix4_take (v := .bool true) rfl rfl rfl (fun _ _ _ h => h) trivial HB11.out (fun Y _ hY => by
      (try simp only [Act.put]); go_simp) ?_
    (try simp only [Act.put, List.setIfInBounds_toArray, List.set_cons_succ, List.set_cons_zero, List.getElem_toArray, List.getElem_cons_succ, List.getElem_cons_zero])
    refine mix4_nil ?_
    go_wp2_with fail
    go_ret
    exact ⟨rfl, HB.out.trans (Below.mono HB11.out HB.out.size)⟩
end Go.Proofs.YtpjmdilpldaapaaDoor
