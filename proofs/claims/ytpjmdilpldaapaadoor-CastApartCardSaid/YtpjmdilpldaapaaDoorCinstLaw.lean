/- CastInstance, walked. -/
import Derived.Test.YtpjmdilpldaapaaDoorCawake
import Derived.Test.YtpjmdilpldaapaaDoorCrinstance
import Derived.Test.YtpjmdilpldaapaaDoorGe
namespace Go.Proofs.YtpjmdilpldaapaaDoor
open Go.RowKit Go.Sort

theorem check_of_valid {t : Tm} (h : t.valid = 0) : t.check = 0 := by
  unfold Tm.valid at h
  split at h
  · exact h
  · rename_i hc; exact Decidable.byContradiction fun hn => (by first | exact hc hn | omega)
theorem instS {t : Tm} {A : Option Addr} {cap : Nat} {z : Int} {w : World} {r : Tm} (hr : r = instT t z) (hn : t.size ≤ 1000000) (hchk : t.check = 0) (hrep : RepT w w.heap.size t A cap) :
    Calls Tryd.prog 19 #[t.val A cap, .int .i64 z] w (InstR r w) := by subst hr; exact instance_any t A cap z w hn hchk hrep
theorem rinstS {t : Tm} {A : Option Addr} {cap : Nat} {z : Int} {w : World} {r : Tm} (hr : r = instT t z) (hn : t.size ≤ 1000000) (hchk : t.check = 0) (hrep : RepT w w.heap.size t A cap) :
    Calls Tryd.prog 20 #[t.val A cap, .int .i64 z] w (InstR r w) := by subst hr; exact rinstance_any t A cap z w hn hchk hrep
theorem sameS {r : Tm} {A A' : Option Addr} {c c' : Nat} {w : World} (hn : r.size ≤ 1000000) (h : RepT w w.heap.size r A c) (h' : RepT w w.heap.size r A' c') :
    Calls Tryd.prog 18 #[r.val A c, r.val A' c'] w fun e w' => e = .returned (.bool true) ∧ Below w.heap.size w w' := by
  refine (rsame_any r r A A' c c' w hn hn h h').mono ?_
  rintro e w' ⟨rfl, hl⟩
  rw [Tm.same_iff.2 rfl]
  exact ⟨rfl, hl.below⟩

attribute [local irreducible] wpMix4
set_option linter.unusedSimpArgs false in
set_option linter.unusedVariables false in
set_option maxHeartbeats 4000000 in
set_option maxRecDepth 100000 in
theorem castInstance_law (t : Tm) (A : Option Addr) (cap : Nat) (z : Int) (w : World) (hrep : RepT w w.heap.size t A cap) :
    Calls Tryd.prog 4 #[t.val A cap, .int .i64 z] w fun e w' => e = .returned (.bool true) ∧ Below w.heap.size w w' := by
  have mixed : Tryd.prog.follows .mixedOrders = true := by kernel_rfl
  obtain ⟨V, hV⟩ : ∃ V, V = w.alloc (.cells #[.int .i64 t.kind, .string t.name, .int .i64 t.sort, .slice A t.kids.length cap] 35) := ⟨_, rfl⟩
  have hbV : Below w.heap.size w V := by rw [hV]; exact below1 (Nat.le_refl _) _
  have hxV : V.heap[w.heap.size]? = some (.cells #[.int .i64 t.kind, .string t.name, .int .i64 t.sort, .slice A t.kids.length cap] 35 (0, 0)) := by rw [hV]; exact heap_alloc_new _ _
  have HX0 := Lib.hid hxV; have HB0 := Lib.hid hbV; have HV := Lib.hid hV
  have HR0 := Lib.hid (hrep.go hbV hbV.size)
  clear hbV hxV hV hrep
  simp only [Tm.val]
  go_enter Tryd.func4, Tryd.ntmps4
  go_wp2_with fail
  rw [← HV.out]
  clear HV
  refine (cawake_any V).mono ?_
  rintro e w1 ⟨rfl, hb1⟩
  have HX1 := Lib.hid ((hb1.block _ (Array.getElem?_eq_some_iff.1 HX0.out).1).trans HX0.out)
  have HB1 := Lib.hid (below_then HB0.out hb1 HB0.out.size)
  have HR1 := Lib.hid (HR0.out.go hb1 hb1.size)
  clear HX0 HB0 HR0 hb1
  obtain ⟨a0, a1, a2, a3, -⟩ := box_at HX1.out
  have HON := Lib.hid (one_any t A cap w1 HR1.out)
  simp only [Tm.val] at HON
  go_wp2_with fail
  refine HON.out.mono ?_; clear HON
  rintro e w2 ⟨rfl, hl2⟩
  have HX2 := Lib.hid ((hl2.below.block _ (Array.getElem?_eq_some_iff.1 HX1.out).1).trans HX1.out)
  have HB2 := Lib.hid (below_then HB1.out hl2.below HB1.out.size)
  have HR2 := Lib.hid (HR1.out.go hl2.below hl2.size)
  clear HX1 HB1 HR1 hl2 a0 a1 a2 a3
  by_cases hle : 0 ≤ t.left 450
  case' neg =>
    rw [decide_eq_false hle]
    clear hle
    go_wp2_with fail
  case neg =>
    refine (cawake_any w2).mono ?_
    rintro e w3 ⟨rfl, hb3⟩
    go_wp2_with fail
    go_ret
    exact ⟨rfl, below_then HB2.out hb3 HB2.out.size⟩
  case pos =>
  have hsz : t.size ≤ 450 := by have h := Tm.left_size t 450 hle; omega
  rw [decide_eq_true hle]
  have HSZ := Lib.hid hsz
  clear hle hsz
  obtain ⟨a0, a1, a2, a3, -⟩ := box_at HX2.out
  have HVL := Lib.hid (rvalid_any t A cap w2 (by have := HSZ.out; omega) HR2.out)
  simp only [Tm.val] at HVL
  obtain ⟨E, hE⟩ : ∃ E, E = t.valid := ⟨_, rfl⟩
  rw [← hE] at HVL
  have HCK : Hid (E = 0 → t.check = 0) := Lib.hid (fun h => check_of_valid (hE.symm.trans h))
  clear hE
  go_wp2_with fail
  refine HVL.out.mono ?_; clear HVL
  rintro e w3 ⟨rfl, hl3⟩
  have HX3 := Lib.hid ((hl3.below.block _ (Array.getElem?_eq_some_iff.1 HX2.out).1).trans HX2.out)
  have HB3 := Lib.hid (below_then HB2.out hl3.below HB2.out.size)
  have HR3 := Lib.hid (HR2.out.go hl3.below hl3.size)
  clear HX2 HB2 HR2 hl3 a0 a1 a2 a3
  by_cases h0 : E = 0
  case' neg =>
    have hn0 : (E != 0) = true := by rw [bne_iff_ne]; exact h0
    clear HCK h0
    go_wp2_with fail
  case neg =>
    refine (cawake_any w3).mono ?_
    rintro e w4 ⟨rfl, hb4⟩
    go_wp2_with fail
    go_ret
    exact ⟨rfl, below_then HB3.out hb4 HB3.out.size⟩
  case pos =>
  have HC := Lib.hid (HCK.out h0)
  subst h0
  clear HCK
  obtain ⟨r, hr⟩ : ∃ r, r = instT t z := ⟨_, rfl⟩
  have HRZ : Hid (r.size ≤ 1000000) := Lib.hid (by rw [hr, instT_size]; have := HSZ.out; omega)
  have HR := Lib.hid hr
  clear hr
  go_wp2_with fail
  refine wp_region_mix4 (fun _ => True) (fun Y => Below w3.drew.heap.size w3.drew Y) [] (.held 0 (.held 1 (.held 3 (.held 4 (.op 2 (.op 5 (.op 6 (.held 7 .nil)))))))) mixed (by kernel_rfl) ?_
  have HX : Hid (w3.drew.heap[w.heap.size]? = some (.cells #[.int .i64 t.kind, .string t.name, .int .i64 t.sort, .slice A t.kids.length cap] 35 (0, 0))) := HX3
  have HSB : Hid (w.heap.size < w3.drew.heap.size) := Lib.hid (Array.getElem?_eq_some_iff.1 HX.out).1
  have HB := Lib.hid (below_then HB3.out (Below.refl w3.heap.size w3).drew HB3.out.size)
  have HRT : Hid (RepT w3.drew w3.drew.heap.size t A cap) := Lib.hid (HR3.out.go (Below.refl w3.heap.size w3).drew (Nat.le_refl _))
  clear HX3 HB3 HR3
  generalize w3.drew = D at *
  refine mix4_take (v := .agg #[.int .i64 t.kind, .string t.name, .int .i64 t.sort, .slice A t.kids.length cap]) rfl rfl rfl (fun _ _ _ h => h) trivial (Below.refl D.heap.size D) (fun Y _ hY => by
    obtain ⟨z0, z1, z2, z3, -⟩ := box_at ((hY.block _ HSB.out).trans HX.out)
    clear hY
    (try simp only [Act.put]); go_simp) ?_
  refine mix4_take (v := .int .i64 z) rfl rfl rfl (fun _ _ _ h => h) trivial (Below.refl D.heap.size D) (fun Y _ hY => by
    (try simp only [Act.put]); go_simp) ?_
  refine mix4_take (v := .agg #[.int .i64 t.kind, .string t.name, .int .i64 t.sort, .slice A t.kids.length cap]) rfl rfl rfl (fun _ _ _ h => h) trivial (Below.refl D.heap.size D) (fun Y _ hY => by
    obtain ⟨z0, z1, z2, z3, -⟩ := box_at ((hY.block _ HSB.out).trans HX.out)
    clear hY
    (try simp only [Act.put]); go_simp) ?_
  refine mix4_take (v := .int .i64 z) rfl rfl rfl (fun _ _ _ h => h) trivial (Below.refl D.heap.size D) (fun Y _ hY => by
    (try simp only [Act.put]); go_simp) ?_
  (try simp only [Act.put, List.setIfInBounds_toArray, List.set_cons_succ, List.set_cons_zero, List.getElem_toArray, List.getElem_cons_succ, List.getElem_cons_zero])
  (try simp only [Act.put, List.setIfInBounds_toArray, List.set_cons_succ, List.set_cons_zero, List.getElem_toArray, List.getElem_cons_succ, List.getElem_cons_zero])
  refine mix4_op rfl rfl (fun K hK => ?_)
  have HCC := Lib.hid (instS HR.out (by have := HSZ.out; omega) HC.out (HRT.out.go (Below.refl D.heap.size D) (Below.size (Below.refl D.heap.size D))))
  (try simp only [castV, Tm.val] at HCC)
  go_wp2_with fail
  refine HCC.out.mono ?_; clear HCC
  rintro e y2 ⟨A2, c2, rfl, hr2, hl2⟩
  have HB2 := Lib.hid (Below.trans (Below.refl D.heap.size D) (hl2.mono (Below.size (Below.refl D.heap.size D))))
  refine hK _ _ ⟨⟨fun _ => trivial, HB2.out⟩, ?_⟩
  clear hK K
  have HT2 : Hid (RepT y2 y2.heap.size r A2 c2) := Lib.hid hr2
  clear hl2 hr2
  (try simp only [Tm.val])
  (try simp only [Act.put, List.setIfInBounds_toArray, List.set_cons_succ, List.set_cons_zero, List.getElem_toArray, List.getElem_cons_succ, List.getElem_cons_zero])
  refine mix4_op rfl rfl (fun K hK => ?_)
  have HCC := Lib.hid (rinstS HR.out (by have := HSZ.out; omega) HC.out (HRT.out.go HB2.out (Below.size HB2.out)))
  (try simp only [castV, Tm.val] at HCC)
  go_wp2_with fail
  refine HCC.out.mono ?_; clear HCC
  rintro e y5 ⟨A5, c5, rfl, hr5, hl5⟩
  have HB5 := Lib.hid (Below.trans HB2.out (hl5.mono (Below.size HB2.out)))
  refine hK _ _ ⟨⟨fun _ => trivial, HB5.out⟩, ?_⟩
  clear hK K
  have HT5 : Hid (RepT y5 y5.heap.size r A5 c5) := Lib.hid hr5
  have HT6 := Lib.hid (HT2.out.go hl5 hl5.size)
  clear hl5 hr5 HT2
  (try simp only [Tm.val])
  (try simp only [Act.put, List.setIfInBounds_toArray, List.set_cons_succ, List.set_cons_zero, List.getElem_toArray, List.getElem_cons_succ, List.getElem_cons_zero])
  refine mix4_op rfl rfl (fun K hK => ?_)
  have HCC := Lib.hid (sameS HRZ.out HT6.out HT5.out)
  (try simp only [castV, Tm.val] at HCC)
  go_wp2_with fail
  refine HCC.out.mono ?_; clear HCC
  rintro e y6 ⟨rfl, hl6⟩
  have HB6 := Lib.hid (Below.trans HB5.out (hl6.mono (Below.size HB5.out)))
  refine hK _ _ ⟨⟨fun _ => trivial, HB6.out⟩, ?_⟩
  clear hK K
  clear hl6
  refine mix4_take (v := .bool true) rfl rfl rfl (fun _ _ _ h => h) trivial HB6.out (fun Y _ hY => by
    (try simp only [Act.put]); go_simp) ?_
  (try simp only [Act.put, List.setIfInBounds_toArray, List.set_cons_succ, List.set_cons_zero, List.getElem_toArray, List.getElem_cons_succ, List.getElem_cons_zero])
  refine mix4_nil ?_
  go_wp2_with fail
  go_ret
  exact ⟨rfl, HB.out.trans (Below.mono HB6.out HB.out.size)⟩
end Go.Proofs.YtpjmdilpldaapaaDoor
