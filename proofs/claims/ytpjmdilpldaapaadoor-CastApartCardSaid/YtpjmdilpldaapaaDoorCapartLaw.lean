/- CastApart, walked. -/
import Derived.Test.YtpjmdilpldaapaaDoorCapart0
import Derived.Test.YtpjmdilpldaapaaDoorClaw0
import Derived.Test.YtpjmdilpldaapaaDoorClist
import Derived.Deep.Cut
namespace Go.Proofs.YtpjmdilpldaapaaDoor
open Go.RowKit Go.Sort

attribute [local irreducible] wpMix4
set_option linter.unusedSimpArgs false in
set_option linter.unusedVariables false in
set_option maxHeartbeats 8000000 in
set_option maxRecDepth 100000 in
theorem castApart_law (t : Tm) (A : Option Addr) (cap : Nat) (a : Nat) (ha : a < 256) (b : Nat) (hb : b < 256) (w : World) (hrep : RepT w w.heap.size t A cap) :
    Calls Tryd.prog 5 #[t.val A cap, .int .u8 a, .int .u8 b] w fun e w' => e = .returned (.bool true) ∧ Below w.heap.size w w' := by
  have mixed : Tryd.prog.follows .mixedOrders = true := by kernel_rfl
  obtain ⟨V, hV⟩ : ∃ V, V = w.alloc (.cells #[.int .i64 t.kind, .string t.name, .int .i64 t.sort, .slice A t.kids.length cap] 35) := ⟨_, rfl⟩
  have hbV : Below w.heap.size w V := by rw [hV]; exact below1 (Nat.le_refl _) _
  have hxV : V.heap[w.heap.size]? = some (.cells #[.int .i64 t.kind, .string t.name, .int .i64 t.sort, .slice A t.kids.length cap] 35 (0, 0)) := by rw [hV]; exact heap_alloc_new _ _
  have HX0 := Lib.hid hxV; have HB0 := Lib.hid hbV; have HV := Lib.hid hV
  have HR0 := Lib.hid (hrep.go hbV hbV.size)
  clear hbV hxV hV hrep
  simp only [Tm.val]
  go_enter Tryd.func5, Tryd.ntmps5
  go_wp2_with fail
  rw [← HV.out]
  clear HV
  refine (cawake_any V).mono ?_
  rintro e w1 ⟨rfl, hb1⟩
  have HX1 := Lib.hid ((hb1.block _ (Array.getElem?_eq_some_iff.1 HX0.out).1).trans HX0.out)
  have HB1 := Lib.hid (below_then HB0.out hb1 HB0.out.size)
  have HR1 := Lib.hid (HR0.out.go hb1 hb1.size)
  clear HX0 HB0 HR0 hb1
  obtain ⟨a0, a1, a2, a3, -⟩ := box_at HX1.out
  have HON := Lib.hid (one_any t A cap w1 HR1.out)
  simp only [Tm.val] at HON
  go_wp2_with fail
  refine HON.out.mono ?_; clear HON
  rintro e w2 ⟨rfl, hl2⟩
  have HX2 := Lib.hid ((hl2.below.block _ (Array.getElem?_eq_some_iff.1 HX1.out).1).trans HX1.out)
  have HB2 := Lib.hid (below_then HB1.out hl2.below HB1.out.size)
  have HR2 := Lib.hid (HR1.out.go hl2.below hl2.size)
  clear HX1 HB1 HR1 hl2 a0 a1 a2 a3
  by_cases hle : 0 ≤ t.left 450
  case' neg =>
    rw [decide_eq_false hle]
    clear hle
    go_wp2_with fail
  case neg =>
    refine (cawake_any w2).mono ?_
    rintro e w3 ⟨rfl, hb3⟩
    go_wp2_with fail
    go_ret
    exact ⟨rfl, below_then HB2.out hb3 HB2.out.size⟩
  case pos =>
  have hsz : t.size ≤ 450 := by have h := Tm.left_size t 450 hle; omega
  rw [decide_eq_true hle]
  have HSZ := Lib.hid hsz
  clear hle hsz
  obtain ⟨a0, a1, a2, a3, -⟩ := box_at HX2.out
  have HVL := Lib.hid (rvalid_any t A cap w2 (by have := HSZ.out; omega) HR2.out)
  simp only [Tm.val] at HVL
  obtain ⟨E, hE⟩ : ∃ E, E = t.valid := ⟨_, rfl⟩
  rw [← hE] at HVL
  have HCK : Hid (E = 0 → t.check = 0) := Lib.hid (fun h => check_of_valid (hE.symm.trans h))
  clear hE
  go_wp2_with fail
  refine HVL.out.mono ?_; clear HVL
  rintro e w3 ⟨rfl, hl3⟩
  have HX3 := Lib.hid ((hl3.below.block _ (Array.getElem?_eq_some_iff.1 HX2.out).1).trans HX2.out)
  have HB3 := Lib.hid (below_then HB2.out hl3.below HB2.out.size)
  have HR3 := Lib.hid (HR2.out.go hl3.below hl3.size)
  clear HX2 HB2 HR2 hl3 a0 a1 a2 a3
  by_cases h0 : E = 0
  case' neg =>
    have hn0 : (E != 0) = true := by rw [bne_iff_ne]; exact h0
    clear HCK h0
    go_wp2_with fail
  case neg =>
    refine (cawake_any w3).mono ?_
    rintro e w4 ⟨rfl, hb4⟩
    go_wp2_with fail
    go_ret
    exact ⟨rfl, below_then HB3.out hb4 HB3.out.size⟩
  case pos =>
  have HC := Lib.hid (HCK.out h0)
  subst h0
  clear HCK
  by_cases hab : a = b
  case' pos =>
    have hab' : ((a : Int) == (b : Int)) = true := by rw [hab]; exact beq_self_eq_true _
    clear hab
    go_wp2_with fail
  case pos =>
    refine (cawake_any w3).mono ?_
    rintro e w4 ⟨rfl, hb4⟩
    go_wp2_with fail
    go_ret
    exact ⟨rfl, below_then HB3.out hb4 HB3.out.size⟩
  case neg =>
  have hab' : ((a : Int) == (b : Int)) = false := by rw [beq_eq_false_iff_ne]; omega
  obtain ⟨x, hx⟩ : ∃ x, x = instT t a := ⟨_, rfl⟩
  obtain ⟨y, hy⟩ : ∃ y, y = instT t b := ⟨_, rfl⟩
  have HXZ : Hid (x.size ≤ 1000000) := Lib.hid (by rw [hx, instT_size]; have := HSZ.out; omega)
  have HYZ : Hid (y.size ≤ 1000000) := Lib.hid (by rw [hy, instT_size]; have := HSZ.out; omega)
  obtain ⟨BD, hBD⟩ : ∃ B, B = w3.drew.heap.size := ⟨_, rfl⟩
  have HBD := Lib.hid hBD
  have HSB : Hid (w.heap.size < BD) := Lib.hid (by rw [hBD]; exact (Array.getElem?_eq_some_iff.1 HX3.out).1)
  clear hBD
  have IN3 : Hid (∀ X, Below w3.drew.heap.size w3.drew X → Calls Tryd.prog 19 #[t.val A cap, .int .i64 a] X (InstR2 w3.drew.heap.size x X)) := Lib.hid fun X hX => by
    rw [hx]
    exact instance2_any t A cap a X (by have := HSZ.out; omega) HC.out w3.drew.heap.size hX.size (RepP.mono (fun k h => h) (fun q hq => hX.cell hq) _ _ _ (show RepT w3.drew w3.drew.heap.size t A cap from HR3.out.go (Below.refl w3.heap.size w3).drew (Nat.le_refl _)))
  have IN7 : Hid (∀ X, Below w3.drew.heap.size w3.drew X → Calls Tryd.prog 19 #[t.val A cap, .int .i64 b] X (InstR2 w3.drew.heap.size y X)) := Lib.hid fun X hX => by
    rw [hy]
    exact instance2_any t A cap b X (by have := HSZ.out; omega) HC.out w3.drew.heap.size hX.size (RepP.mono (fun k h => h) (fun q hq => hX.cell hq) _ _ _ (show RepT w3.drew w3.drew.heap.size t A cap from HR3.out.go (Below.refl w3.heap.size w3).drew (Nat.le_refl _)))
  have HAPT : Hid (∀ u : Tm, x ≠ t → y ≠ t → u ∈ x.all → u ∈ y.all → u.kind = 2 → u ∈ t.all) := Lib.hid fun u h1 h2 h3 h4 h5 => by
    rw [hx] at h1 h3; rw [hy] at h2 h4
    exact inst_apart HC.out hab h1 h2 h3 h4 h5
  have hau : (0 : Int) ≤ (a : Int) := Int.natCast_nonneg _
  have hau2 : (a : Int) < 256 := by omega
  have hbu : (0 : Int) ≤ (b : Int) := Int.natCast_nonneg _
  have hbu2 : (b : Int) < 256 := by omega
  have hwa : IntKind.i64.wrap (a : Int) = a := IntWalk.i64_in _ ⟨by omega, by omega⟩
  have hwb : IntKind.i64.wrap (b : Int) = b := IntWalk.i64_in _ ⟨by omega, by omega⟩
  clear hx hy hab
  go_upto_region 3 with fail
  go_cut [7, 8] from 12 (fun v8 v9 wr => ∃ (p8 p9 : Nat) (A3 : Option Addr) (c3 : Nat) (A7 : Option Addr) (c7 : Nat), v8 = .pointer (some ⟨p8, 0, none⟩) ∧ v9 = .pointer (some ⟨p9, 0, none⟩) ∧ Two w3.drew wr p8 p9 x y A3 c3 A7 c7)
  case first =>
    go_wp2_with fail
    refine wp_region_mix4 (fun _ => True) (fun Y => Below BD w3.drew Y) [] (.held 0 (.held 1 (.held 2 (.held 4 (.held 5 (.held 6 (.three 3 8 9 (.three 7 8 9 (.two 8 9 (.op 9 (.op 10 (.op 11 .nil))) (.op 8 (.op 10 (.op 11 .nil)))) (.two 7 9 (.op 9 (.op 10 (.op 11 .nil))) (.op 7 (.op 10 (.op 11 .nil)))) (.two 7 8 (.op 8 (.op 10 (.op 11 .nil))) (.op 7 (.op 10 (.op 11 .nil))))) (.two 3 9 (.two 7 9 (.op 9 (.op 10 (.op 11 .nil))) (.op 7 (.op 10 (.op 11 .nil)))) (.op 3 (.op 7 (.op 10 (.op 11 .nil))))) (.two 3 8 (.two 7 8 (.op 8 (.op 10 (.op 11 .nil))) (.op 7 (.op 10 (.op 11 .nil)))) (.op 3 (.op 7 (.op 10 (.op 11 .nil)))))))))))) mixed (by kernel_rfl) ?_
    have HX : Hid (w3.drew.heap[w.heap.size]? = some (.cells #[.int .i64 t.kind, .string t.name, .int .i64 t.sort, .slice A t.kids.length cap] 35 (0, 0))) := HX3
    have HAP : Hid (AP w3.drew w3.drew []) := Lib.hid (AP.nil _)
    generalize w3.drew = D at *
    refine mix4_take (v := .agg #[.int .i64 t.kind, .string t.name, .int .i64 t.sort, .slice A t.kids.length cap]) rfl rfl rfl (fun _ _ _ h => h) trivial (Below.refl BD D) (fun Y _ hY => by
      obtain ⟨z0, z1, z2, z3, -⟩ := box_at ((hY.block _ HSB.out).trans HX.out)
      clear hY
      (try simp only [Act.put]); go_simp) ?_
    refine mix4_take (v := .int .u8 a) rfl rfl rfl (fun _ _ _ h => h) trivial (Below.refl BD D) (fun Y _ hY => by
      (try simp only [Act.put]); go_simp) ?_
    refine mix4_take (v := .int .i64 a) rfl rfl rfl (fun _ _ _ h => h) trivial (Below.refl BD D) (fun Y _ hY => by
      (try simp only [Act.put]); go_simp) ?_
    (try simp only [Act.put, List.setIfInBounds_toArray, List.set_cons_succ, List.set_cons_zero, List.getElem_toArray, List.getElem_cons_succ, List.getElem_cons_zero])
    refine mix4_take (v := .agg #[.int .i64 t.kind, .string t.name, .int .i64 t.sort, .slice A t.kids.length cap]) rfl rfl rfl (fun _ _ _ h => h) trivial (Below.refl BD D) (fun Y _ hY => by
      obtain ⟨z0, z1, z2, z3, -⟩ := box_at ((hY.block _ HSB.out).trans HX.out)
      clear hY
      (try simp only [Act.put]); go_simp) ?_
    refine mix4_take (v := .int .u8 b) rfl rfl rfl (fun _ _ _ h => h) trivial (Below.refl BD D) (fun Y _ hY => by
      (try simp only [Act.put]); go_simp) ?_
    refine mix4_take (v := .int .i64 b) rfl rfl rfl (fun _ _ _ h => h) trivial (Below.refl BD D) (fun Y _ hY => by
      (try simp only [Act.put]); go_simp) ?_
    (try simp only [Act.put, List.setIfInBounds_toArray, List.set_cons_succ, List.set_cons_zero, List.getElem_toArray, List.getElem_cons_succ, List.getElem_cons_zero])
    refine mix4_three ?w1x0 ?w1x1 ?w1x2
    case' w1x0 =>
      (try simp only [Act.put, List.setIfInBounds_toArray, List.set_cons_succ, List.set_cons_zero, List.getElem_toArray, List.getElem_cons_succ, List.getElem_cons_zero])
      refine mix4_op rfl rfl (fun K hK => ?_)
      have HCC := Lib.hid (IN3.out D HAP.out.bel)
      (try simp only [Tm.val] at HCC)
      go_wp2_with fail
      refine HCC.out.mono ?_; clear HCC
      rintro e y1 ⟨A3, c3, rfl, hr, hk⟩
      have HI3 : Hid (InstA y1 [] x A3 c3) := Lib.hid (InstA.new HAP.out hr hk)
      have HAP' := Lib.hid (HAP.out.call hk)
      clear HAP
      have HAP := HAP'
      clear HAP'
      refine hK _ _ ⟨⟨fun _ => trivial, by rw [HBD.out]; exact HAP.out.bel⟩, ?_⟩
      clear hK K hr hk
      (try simp only [Tm.val])
      refine mix4_three ?w2x0 ?w2x1 ?w2x2
      case' w2x0 =>
        (try simp only [Act.put, List.setIfInBounds_toArray, List.set_cons_succ, List.set_cons_zero, List.getElem_toArray, List.getElem_cons_succ, List.getElem_cons_zero])
        refine mix4_op rfl rfl (fun K hK => ?_)
        have HCC := Lib.hid (IN7.out y1 HAP.out.bel)
        (try simp only [Tm.val] at HCC)
        go_wp2_with fail
        refine HCC.out.mono ?_; clear HCC
        rintro e y2 ⟨A7, c7, rfl, hr, hk⟩
        have HI7 : Hid (InstA y2 [] y A7 c7) := Lib.hid (InstA.new HAP.out hr hk)
        have HI3' := Lib.hid (HI3.out.call hk)
        clear HI3
        have HI3 := HI3'
        clear HI3'
        have HAP' := Lib.hid (HAP.out.call hk)
        clear HAP
        have HAP := HAP'
        clear HAP'
        refine hK _ _ ⟨⟨fun _ => trivial, by rw [HBD.out]; exact HAP.out.bel⟩, ?_⟩
        clear hK K hr hk
        (try simp only [Tm.val])
        refine mix4_two ?w3x0 ?w3x1
        case' w3x0 =>
          (try simp only [Act.put, List.setIfInBounds_toArray, List.set_cons_succ, List.set_cons_zero, List.getElem_toArray, List.getElem_cons_succ, List.getElem_cons_zero])
          refine mix4_op rfl rfl (fun K hK => ?_)
          go_wp2_with fail
          obtain ⟨y3, hw⟩ : ∃ Z, Z = y2.alloc (.cells #[.int .i64 0, .string ⟨#[]⟩, .int .i64 0, .slice none 0 0] 35) := ⟨_, rfl⟩
          rw [← hw]
          have HI3' := Lib.hid (HI3.out.alloc hw)
          clear HI3
          have HI3 := HI3'
          clear HI3'
          have HI7' := Lib.hid (HI7.out.alloc hw)
          clear HI7
          have HI7 := HI7'
          clear HI7'
          have HAP' := Lib.hid (HAP.out.alloc hw)
          clear HAP
          have HAP := HAP'
          clear HAP'
          obtain ⟨p8, hp⟩ : ∃ p, p = y2.heap.size := ⟨_, rfl⟩
          rw [← hp] at HAP HI3 HI7
          rw [← hp]
          refine ⟨⟨fun _ => trivial, by rw [HBD.out]; exact HAP.out.bel⟩, ?_⟩
          clear hw hp
          (try simp only [Act.put, List.setIfInBounds_toArray, List.set_cons_succ, List.set_cons_zero, List.getElem_toArray, List.getElem_cons_succ, List.getElem_cons_zero])
          refine mix4_op rfl rfl (fun K hK => ?_)
          go_wp2_with fail
          obtain ⟨y4, hw⟩ : ∃ Z, Z = y3.alloc (.cells #[.int .i64 0, .string ⟨#[]⟩, .int .i64 0, .slice none 0 0] 35) := ⟨_, rfl⟩
          rw [← hw]
          have HI3' := Lib.hid (HI3.out.alloc hw)
          clear HI3
          have HI3 := HI3'
          clear HI3'
          have HI7' := Lib.hid (HI7.out.alloc hw)
          clear HI7
          have HI7 := HI7'
          clear HI7'
          have HAP' := Lib.hid (HAP.out.alloc hw)
          clear HAP
          have HAP := HAP'
          clear HAP'
          obtain ⟨p9, hp⟩ : ∃ p, p = y3.heap.size := ⟨_, rfl⟩
          rw [← hp] at HAP HI3 HI7
          rw [← hp]
          refine ⟨⟨fun _ => trivial, by rw [HBD.out]; exact HAP.out.bel⟩, ?_⟩
          clear hw hp
        case' w3x1 =>
          (try simp only [Act.put, List.setIfInBounds_toArray, List.set_cons_succ, List.set_cons_zero, List.getElem_toArray, List.getElem_cons_succ, List.getElem_cons_zero])
          refine mix4_op rfl rfl (fun K hK => ?_)
          go_wp2_with fail
          obtain ⟨y3, hw⟩ : ∃ Z, Z = y2.alloc (.cells #[.int .i64 0, .string ⟨#[]⟩, .int .i64 0, .slice none 0 0] 35) := ⟨_, rfl⟩
          rw [← hw]
          have HI3' := Lib.hid (HI3.out.alloc hw)
          clear HI3
          have HI3 := HI3'
          clear HI3'
          have HI7' := Lib.hid (HI7.out.alloc hw)
          clear HI7
          have HI7 := HI7'
          clear HI7'
          have HAP' := Lib.hid (HAP.out.alloc hw)
          clear HAP
          have HAP := HAP'
          clear HAP'
          obtain ⟨p9, hp⟩ : ∃ p, p = y2.heap.size := ⟨_, rfl⟩
          rw [← hp] at HAP HI3 HI7
          rw [← hp]
          refine ⟨⟨fun _ => trivial, by rw [HBD.out]; exact HAP.out.bel⟩, ?_⟩
          clear hw hp
          (try simp only [Act.put, List.setIfInBounds_toArray, List.set_cons_succ, List.set_cons_zero, List.getElem_toArray, List.getElem_cons_succ, List.getElem_cons_zero])
          refine mix4_op rfl rfl (fun K hK => ?_)
          go_wp2_with fail
          obtain ⟨y4, hw⟩ : ∃ Z, Z = y3.alloc (.cells #[.int .i64 0, .string ⟨#[]⟩, .int .i64 0, .slice none 0 0] 35) := ⟨_, rfl⟩
          rw [← hw]
          have HI3' := Lib.hid (HI3.out.alloc hw)
          clear HI3
          have HI3 := HI3'
          clear HI3'
          have HI7' := Lib.hid (HI7.out.alloc hw)
          clear HI7
          have HI7 := HI7'
          clear HI7'
          have HAP' := Lib.hid (HAP.out.alloc hw)
          clear HAP
          have HAP := HAP'
          clear HAP'
          obtain ⟨p8, hp⟩ : ∃ p, p = y3.heap.size := ⟨_, rfl⟩
          rw [← hp] at HAP HI3 HI7
          rw [← hp]
          refine ⟨⟨fun _ => trivial, by rw [HBD.out]; exact HAP.out.bel⟩, ?_⟩
          clear hw hp
      case' w2x1 =>
        (try simp only [Act.put, List.setIfInBounds_toArray, List.set_cons_succ, List.set_cons_zero, List.getElem_toArray, List.getElem_cons_succ, List.getElem_cons_zero])
        refine mix4_op rfl rfl (fun K hK => ?_)
        go_wp2_with fail
        obtain ⟨y2, hw⟩ : ∃ Z, Z = y1.alloc (.cells #[.int .i64 0, .string ⟨#[]⟩, .int .i64 0, .slice none 0 0] 35) := ⟨_, rfl⟩
        rw [← hw]
        have HI3' := Lib.hid (HI3.out.alloc hw)
        clear HI3
        have HI3 := HI3'
        clear HI3'
        have HAP' := Lib.hid (HAP.out.alloc hw)
        clear HAP
        have HAP := HAP'
        clear HAP'
        obtain ⟨p8, hp⟩ : ∃ p, p = y1.heap.size := ⟨_, rfl⟩
        rw [← hp] at HAP HI3
        rw [← hp]
        refine ⟨⟨fun _ => trivial, by rw [HBD.out]; exact HAP.out.bel⟩, ?_⟩
        clear hw hp
        refine mix4_two ?w4x0 ?w4x1
        case' w4x0 =>
          (try simp only [Act.put, List.setIfInBounds_toArray, List.set_cons_succ, List.set_cons_zero, List.getElem_toArray, List.getElem_cons_succ, List.getElem_cons_zero])
          refine mix4_op rfl rfl (fun K hK => ?_)
          have HCC := Lib.hid (IN7.out y2 HAP.out.bel)
          (try simp only [Tm.val] at HCC)
          go_wp2_with fail
          refine HCC.out.mono ?_; clear HCC
          rintro e y3 ⟨A7, c7, rfl, hr, hk⟩
          have HI7 : Hid (InstA y3 [p8] y A7 c7) := Lib.hid (InstA.new HAP.out hr hk)
          have HI3' := Lib.hid (HI3.out.call hk)
          clear HI3
          have HI3 := HI3'
          clear HI3'
          have HAP' := Lib.hid (HAP.out.call hk)
          clear HAP
          have HAP := HAP'
          clear HAP'
          refine hK _ _ ⟨⟨fun _ => trivial, by rw [HBD.out]; exact HAP.out.bel⟩, ?_⟩
          clear hK K hr hk
          (try simp only [Tm.val])
          (try simp only [Act.put, List.setIfInBounds_toArray, List.set_cons_succ, List.set_cons_zero, List.getElem_toArray, List.getElem_cons_succ, List.getElem_cons_zero])
          refine mix4_op rfl rfl (fun K hK => ?_)
          go_wp2_with fail
          obtain ⟨y4, hw⟩ : ∃ Z, Z = y3.alloc (.cells #[.int .i64 0, .string ⟨#[]⟩, .int .i64 0, .slice none 0 0] 35) := ⟨_, rfl⟩
          rw [← hw]
          have HI3' := Lib.hid (HI3.out.alloc hw)
          clear HI3
          have HI3 := HI3'
          clear HI3'
          have HI7' := Lib.hid (HI7.out.alloc hw)
          clear HI7
          have HI7 := HI7'
          clear HI7'
          have HAP' := Lib.hid (HAP.out.alloc hw)
          clear HAP
          have HAP := HAP'
          clear HAP'
          obtain ⟨p9, hp⟩ : ∃ p, p = y3.heap.size := ⟨_, rfl⟩
          rw [← hp] at HAP HI3 HI7
          rw [← hp]
          refine ⟨⟨fun _ => trivial, by rw [HBD.out]; exact HAP.out.bel⟩, ?_⟩
          clear hw hp
        case' w4x1 =>
          (try simp only [Act.put, List.setIfInBounds_toArray, List.set_cons_succ, List.set_cons_zero, List.getElem_toArray, List.getElem_cons_succ, List.getElem_cons_zero])
          refine mix4_op rfl rfl (fun K hK => ?_)
          go_wp2_with fail
          obtain ⟨y3, hw⟩ : ∃ Z, Z = y2.alloc (.cells #[.int .i64 0, .string ⟨#[]⟩, .int .i64 0, .slice none 0 0] 35) := ⟨_, rfl⟩
          rw [← hw]
          have HI3' := Lib.hid (HI3.out.alloc hw)
          clear HI3
          have HI3 := HI3'
          clear HI3'
          have HAP' := Lib.hid (HAP.out.alloc hw)
          clear HAP
          have HAP := HAP'
          clear HAP'
          obtain ⟨p9, hp⟩ : ∃ p, p = y2.heap.size := ⟨_, rfl⟩
          rw [← hp] at HAP HI3
          rw [← hp]
          refine ⟨⟨fun _ => trivial, by rw [HBD.out]; exact HAP.out.bel⟩, ?_⟩
          clear hw hp
          (try simp only [Act.put, List.setIfInBounds_toArray, List.set_cons_succ, List.set_cons_zero, List.getElem_toArray, List.getElem_cons_succ, List.getElem_cons_zero])
          refine mix4_op rfl rfl (fun K hK => ?_)
          have HCC := Lib.hid (IN7.out y3 HAP.out.bel)
          (try simp only [Tm.val] at HCC)
          go_wp2_with fail
          refine HCC.out.mono ?_; clear HCC
          rintro e y4 ⟨A7, c7, rfl, hr, hk⟩
          have HI7 : Hid (InstA y4 [p9, p8] y A7 c7) := Lib.hid (InstA.new HAP.out hr hk)
          have HI3' := Lib.hid (HI3.out.call hk)
          clear HI3
          have HI3 := HI3'
          clear HI3'
          have HAP' := Lib.hid (HAP.out.call hk)
          clear HAP
          have HAP := HAP'
          clear HAP'
          refine hK _ _ ⟨⟨fun _ => trivial, by rw [HBD.out]; exact HAP.out.bel⟩, ?_⟩
          clear hK K hr hk
          (try simp only [Tm.val])
      case' w2x2 =>
        (try simp only [Act.put, List.setIfInBounds_toArray, List.set_cons_succ, List.set_cons_zero, List.getElem_toArray, List.getElem_cons_succ, List.getElem_cons_zero])
        refine mix4_op rfl rfl (fun K hK => ?_)
        go_wp2_with fail
        obtain ⟨y2, hw⟩ : ∃ Z, Z = y1.alloc (.cells #[.int .i64 0, .string ⟨#[]⟩, .int .i64 0, .slice none 0 0] 35) := ⟨_, rfl⟩
        rw [← hw]
        have HI3' := Lib.hid (HI3.out.alloc hw)
        clear HI3
        have HI3 := HI3'
        clear HI3'
        have HAP' := Lib.hid (HAP.out.alloc hw)
        clear HAP
        have HAP := HAP'
        clear HAP'
        obtain ⟨p9, hp⟩ : ∃ p, p = y1.heap.size := ⟨_, rfl⟩
        rw [← hp] at HAP HI3
        rw [← hp]
        refine ⟨⟨fun _ => trivial, by rw [HBD.out]; exact HAP.out.bel⟩, ?_⟩
        clear hw hp
        refine mix4_two ?w5x0 ?w5x1
        case' w5x0 =>
          (try simp only [Act.put, List.setIfInBounds_toArray, List.set_cons_succ, List.set_cons_zero, List.getElem_toArray, List.getElem_cons_succ, List.getElem_cons_zero])
          refine mix4_op rfl rfl (fun K hK => ?_)
          have HCC := Lib.hid (IN7.out y2 HAP.out.bel)
          (try simp only [Tm.val] at HCC)
          go_wp2_with fail
          refine HCC.out.mono ?_; clear HCC
          rintro e y3 ⟨A7, c7, rfl, hr, hk⟩
          have HI7 : Hid (InstA y3 [p9] y A7 c7) := Lib.hid (InstA.new HAP.out hr hk)
          have HI3' := Lib.hid (HI3.out.call hk)
          clear HI3
          have HI3 := HI3'
          clear HI3'
          have HAP' := Lib.hid (HAP.out.call hk)
          clear HAP
          have HAP := HAP'
          clear HAP'
          refine hK _ _ ⟨⟨fun _ => trivial, by rw [HBD.out]; exact HAP.out.bel⟩, ?_⟩
          clear hK K hr hk
          (try simp only [Tm.val])
          (try simp only [Act.put, List.setIfInBounds_toArray, List.set_cons_succ, List.set_cons_zero, List.getElem_toArray, List.getElem_cons_succ, List.getElem_cons_zero])
          refine mix4_op rfl rfl (fun K hK => ?_)
          go_wp2_with fail
          obtain ⟨y4, hw⟩ : ∃ Z, Z = y3.alloc (.cells #[.int .i64 0, .string ⟨#[]⟩, .int .i64 0, .slice none 0 0] 35) := ⟨_, rfl⟩
          rw [← hw]
          have HI3' := Lib.hid (HI3.out.alloc hw)
          clear HI3
          have HI3 := HI3'
          clear HI3'
          have HI7' := Lib.hid (HI7.out.alloc hw)
          clear HI7
          have HI7 := HI7'
          clear HI7'
          have HAP' := Lib.hid (HAP.out.alloc hw)
          clear HAP
          have HAP := HAP'
          clear HAP'
          obtain ⟨p8, hp⟩ : ∃ p, p = y3.heap.size := ⟨_, rfl⟩
          rw [← hp] at HAP HI3 HI7
          rw [← hp]
          refine ⟨⟨fun _ => trivial, by rw [HBD.out]; exact HAP.out.bel⟩, ?_⟩
          clear hw hp
        case' w5x1 =>
          (try simp only [Act.put, List.setIfInBounds_toArray, List.set_cons_succ, List.set_cons_zero, List.getElem_toArray, List.getElem_cons_succ, List.getElem_cons_zero])
          refine mix4_op rfl rfl (fun K hK => ?_)
          go_wp2_with fail
          obtain ⟨y3, hw⟩ : ∃ Z, Z = y2.alloc (.cells #[.int .i64 0, .string ⟨#[]⟩, .int .i64 0, .slice none 0 0] 35) := ⟨_, rfl⟩
          rw [← hw]
          have HI3' := Lib.hid (HI3.out.alloc hw)
          clear HI3
          have HI3 := HI3'
          clear HI3'
          have HAP' := Lib.hid (HAP.out.alloc hw)
          clear HAP
          have HAP := HAP'
          clear HAP'
          obtain ⟨p8, hp⟩ : ∃ p, p = y2.heap.size := ⟨_, rfl⟩
          rw [← hp] at HAP HI3
          rw [← hp]
          refine ⟨⟨fun _ => trivial, by rw [HBD.out]; exact HAP.out.bel⟩, ?_⟩
          clear hw hp
          (try simp only [Act.put, List.setIfInBounds_toArray, List.set_cons_succ, List.set_cons_zero, List.getElem_toArray, List.getElem_cons_succ, List.getElem_cons_zero])
          refine mix4_op rfl rfl (fun K hK => ?_)
          have HCC := Lib.hid (IN7.out y3 HAP.out.bel)
          (try simp only [Tm.val] at HCC)
          go_wp2_with fail
          refine HCC.out.mono ?_; clear HCC
          rintro e y4 ⟨A7, c7, rfl, hr, hk⟩
          have HI7 : Hid (InstA y4 [p8, p9] y A7 c7) := Lib.hid (InstA.new HAP.out hr hk)
          have HI3' := Lib.hid (HI3.out.call hk)
          clear HI3
          have HI3 := HI3'
          clear HI3'
          have HAP' := Lib.hid (HAP.out.call hk)
          clear HAP
          have HAP := HAP'
          clear HAP'
          refine hK _ _ ⟨⟨fun _ => trivial, by rw [HBD.out]; exact HAP.out.bel⟩, ?_⟩
          clear hK K hr hk
          (try simp only [Tm.val])
    case' w1x1 =>
      (try simp only [Act.put, List.setIfInBounds_toArray, List.set_cons_succ, List.set_cons_zero, List.getElem_toArray, List.getElem_cons_succ, List.getElem_cons_zero])
      refine mix4_op rfl rfl (fun K hK => ?_)
      go_wp2_with fail
      obtain ⟨y1, hw⟩ : ∃ Z, Z = D.alloc (.cells #[.int .i64 0, .string ⟨#[]⟩, .int .i64 0, .slice none 0 0] 35) := ⟨_, rfl⟩
      rw [← hw]
      have HAP' := Lib.hid (HAP.out.alloc hw)
      clear HAP
      have HAP := HAP'
      clear HAP'
      obtain ⟨p8, hp⟩ : ∃ p, p = D.heap.size := ⟨_, rfl⟩
      rw [← hp] at HAP
      rw [← hp]
      refine ⟨⟨fun _ => trivial, by rw [HBD.out]; exact HAP.out.bel⟩, ?_⟩
      clear hw hp
      refine mix4_two ?w6x0 ?w6x1
      case' w6x0 =>
        (try simp only [Act.put, List.setIfInBounds_toArray, List.set_cons_succ, List.set_cons_zero, List.getElem_toArray, List.getElem_cons_succ, List.getElem_cons_zero])
        refine mix4_op rfl rfl (fun K hK => ?_)
        have HCC := Lib.hid (IN3.out y1 HAP.out.bel)
        (try simp only [Tm.val] at HCC)
        go_wp2_with fail
        refine HCC.out.mono ?_; clear HCC
        rintro e y2 ⟨A3, c3, rfl, hr, hk⟩
        have HI3 : Hid (InstA y2 [p8] x A3 c3) := Lib.hid (InstA.new HAP.out hr hk)
        have HAP' := Lib.hid (HAP.out.call hk)
        clear HAP
        have HAP := HAP'
        clear HAP'
        refine hK _ _ ⟨⟨fun _ => trivial, by rw [HBD.out]; exact HAP.out.bel⟩, ?_⟩
        clear hK K hr hk
        (try simp only [Tm.val])
        refine mix4_two ?w7x0 ?w7x1
        case' w7x0 =>
          (try simp only [Act.put, List.setIfInBounds_toArray, List.set_cons_succ, List.set_cons_zero, List.getElem_toArray, List.getElem_cons_succ, List.getElem_cons_zero])
          refine mix4_op rfl rfl (fun K hK => ?_)
          have HCC := Lib.hid (IN7.out y2 HAP.out.bel)
          (try simp only [Tm.val] at HCC)
          go_wp2_with fail
          refine HCC.out.mono ?_; clear HCC
          rintro e y3 ⟨A7, c7, rfl, hr, hk⟩
          have HI7 : Hid (InstA y3 [p8] y A7 c7) := Lib.hid (InstA.new HAP.out hr hk)
          have HI3' := Lib.hid (HI3.out.call hk)
          clear HI3
          have HI3 := HI3'
          clear HI3'
          have HAP' := Lib.hid (HAP.out.call hk)
          clear HAP
          have HAP := HAP'
          clear HAP'
          refine hK _ _ ⟨⟨fun _ => trivial, by rw [HBD.out]; exact HAP.out.bel⟩, ?_⟩
          clear hK K hr hk
          (try simp only [Tm.val])
          (try simp only [Act.put, List.setIfInBounds_toArray, List.set_cons_succ, List.set_cons_zero, List.getElem_toArray, List.getElem_cons_succ, List.getElem_cons_zero])
          refine mix4_op rfl rfl (fun K hK => ?_)
          go_wp2_with fail
          obtain ⟨y4, hw⟩ : ∃ Z, Z = y3.alloc (.cells #[.int .i64 0, .string ⟨#[]⟩, .int .i64 0, .slice none 0 0] 35) := ⟨_, rfl⟩
          rw [← hw]
          have HI3' := Lib.hid (HI3.out.alloc hw)
          clear HI3
          have HI3 := HI3'
          clear HI3'
          have HI7' := Lib.hid (HI7.out.alloc hw)
          clear HI7
          have HI7 := HI7'
          clear HI7'
          have HAP' := Lib.hid (HAP.out.alloc hw)
          clear HAP
          have HAP := HAP'
          clear HAP'
          obtain ⟨p9, hp⟩ : ∃ p, p = y3.heap.size := ⟨_, rfl⟩
          rw [← hp] at HAP HI3 HI7
          rw [← hp]
          refine ⟨⟨fun _ => trivial, by rw [HBD.out]; exact HAP.out.bel⟩, ?_⟩
          clear hw hp
        case' w7x1 =>
          (try simp only [Act.put, List.setIfInBounds_toArray, List.set_cons_succ, List.set_cons_zero, List.getElem_toArray, List.getElem_cons_succ, List.getElem_cons_zero])
          refine mix4_op rfl rfl (fun K hK => ?_)
          go_wp2_with fail
          obtain ⟨y3, hw⟩ : ∃ Z, Z = y2.alloc (.cells #[.int .i64 0, .string ⟨#[]⟩, .int .i64 0, .slice none 0 0] 35) := ⟨_, rfl⟩
          rw [← hw]
          have HI3' := Lib.hid (HI3.out.alloc hw)
          clear HI3
          have HI3 := HI3'
          clear HI3'
          have HAP' := Lib.hid (HAP.out.alloc hw)
          clear HAP
          have HAP := HAP'
          clear HAP'
          obtain ⟨p9, hp⟩ : ∃ p, p = y2.heap.size := ⟨_, rfl⟩
          rw [← hp] at HAP HI3
          rw [← hp]
          refine ⟨⟨fun _ => trivial, by rw [HBD.out]; exact HAP.out.bel⟩, ?_⟩
          clear hw hp
          (try simp only [Act.put, List.setIfInBounds_toArray, List.set_cons_succ, List.set_cons_zero, List.getElem_toArray, List.getElem_cons_succ, List.getElem_cons_zero])
          refine mix4_op rfl rfl (fun K hK => ?_)
          have HCC := Lib.hid (IN7.out y3 HAP.out.bel)
          (try simp only [Tm.val] at HCC)
          go_wp2_with fail
          refine HCC.out.mono ?_; clear HCC
          rintro e y4 ⟨A7, c7, rfl, hr, hk⟩
          have HI7 : Hid (InstA y4 [p9, p8] y A7 c7) := Lib.hid (InstA.new HAP.out hr hk)
          have HI3' := Lib.hid (HI3.out.call hk)
          clear HI3
          have HI3 := HI3'
          clear HI3'
          have HAP' := Lib.hid (HAP.out.call hk)
          clear HAP
          have HAP := HAP'
          clear HAP'
          refine hK _ _ ⟨⟨fun _ => trivial, by rw [HBD.out]; exact HAP.out.bel⟩, ?_⟩
          clear hK K hr hk
          (try simp only [Tm.val])
      case' w6x1 =>
        (try simp only [Act.put, List.setIfInBounds_toArray, List.set_cons_succ, List.set_cons_zero, List.getElem_toArray, List.getElem_cons_succ, List.getElem_cons_zero])
        refine mix4_op rfl rfl (fun K hK => ?_)
        go_wp2_with fail
        obtain ⟨y2, hw⟩ : ∃ Z, Z = y1.alloc (.cells #[.int .i64 0, .string ⟨#[]⟩, .int .i64 0, .slice none 0 0] 35) := ⟨_, rfl⟩
        rw [← hw]
        have HAP' := Lib.hid (HAP.out.alloc hw)
        clear HAP
        have HAP := HAP'
        clear HAP'
        obtain ⟨p9, hp⟩ : ∃ p, p = y1.heap.size := ⟨_, rfl⟩
        rw [← hp] at HAP
        rw [← hp]
        refine ⟨⟨fun _ => trivial, by rw [HBD.out]; exact HAP.out.bel⟩, ?_⟩
        clear hw hp
        (try simp only [Act.put, List.setIfInBounds_toArray, List.set_cons_succ, List.set_cons_zero, List.getElem_toArray, List.getElem_cons_succ, List.getElem_cons_zero])
        refine mix4_op rfl rfl (fun K hK => ?_)
        have HCC := Lib.hid (IN3.out y2 HAP.out.bel)
        (try simp only [Tm.val] at HCC)
        go_wp2_with fail
        refine HCC.out.mono ?_; clear HCC
        rintro e y3 ⟨A3, c3, rfl, hr, hk⟩
        have HI3 : Hid (InstA y3 [p9, p8] x A3 c3) := Lib.hid (InstA.new HAP.out hr hk)
        have HAP' := Lib.hid (HAP.out.call hk)
        clear HAP
        have HAP := HAP'
        clear HAP'
        refine hK _ _ ⟨⟨fun _ => trivial, by rw [HBD.out]; exact HAP.out.bel⟩, ?_⟩
        clear hK K hr hk
        (try simp only [Tm.val])
        (try simp only [Act.put, List.setIfInBounds_toArray, List.set_cons_succ, List.set_cons_zero, List.getElem_toArray, List.getElem_cons_succ, List.getElem_cons_zero])
        refine mix4_op rfl rfl (fun K hK => ?_)
        have HCC := Lib.hid (IN7.out y3 HAP.out.bel)
        (try simp only [Tm.val] at HCC)
        go_wp2_with fail
        refine HCC.out.mono ?_; clear HCC
        rintro e y4 ⟨A7, c7, rfl, hr, hk⟩
        have HI7 : Hid (InstA y4 [p9, p8] y A7 c7) := Lib.hid (InstA.new HAP.out hr hk)
        have HI3' := Lib.hid (HI3.out.call hk)
        clear HI3
        have HI3 := HI3'
        clear HI3'
        have HAP' := Lib.hid (HAP.out.call hk)
        clear HAP
        have HAP := HAP'
        clear HAP'
        refine hK _ _ ⟨⟨fun _ => trivial, by rw [HBD.out]; exact HAP.out.bel⟩, ?_⟩
        clear hK K hr hk
        (try simp only [Tm.val])
    case' w1x2 =>
      (try simp only [Act.put, List.setIfInBounds_toArray, List.set_cons_succ, List.set_cons_zero, List.getElem_toArray, List.getElem_cons_succ, List.getElem_cons_zero])
      refine mix4_op rfl rfl (fun K hK => ?_)
      go_wp2_with fail
      obtain ⟨y1, hw⟩ : ∃ Z, Z = D.alloc (.cells #[.int .i64 0, .string ⟨#[]⟩, .int .i64 0, .slice none 0 0] 35) := ⟨_, rfl⟩
      rw [← hw]
      have HAP' := Lib.hid (HAP.out.alloc hw)
      clear HAP
      have HAP := HAP'
      clear HAP'
      obtain ⟨p9, hp⟩ : ∃ p, p = D.heap.size := ⟨_, rfl⟩
      rw [← hp] at HAP
      rw [← hp]
      refine ⟨⟨fun _ => trivial, by rw [HBD.out]; exact HAP.out.bel⟩, ?_⟩
      clear hw hp
      refine mix4_two ?w8x0 ?w8x1
      case' w8x0 =>
        (try simp only [Act.put, List.setIfInBounds_toArray, List.set_cons_succ, List.set_cons_zero, List.getElem_toArray, List.getElem_cons_succ, List.getElem_cons_zero])
        refine mix4_op rfl rfl (fun K hK => ?_)
        have HCC := Lib.hid (IN3.out y1 HAP.out.bel)
        (try simp only [Tm.val] at HCC)
        go_wp2_with fail
        refine HCC.out.mono ?_; clear HCC
        rintro e y2 ⟨A3, c3, rfl, hr, hk⟩
        have HI3 : Hid (InstA y2 [p9] x A3 c3) := Lib.hid (InstA.new HAP.out hr hk)
        have HAP' := Lib.hid (HAP.out.call hk)
        clear HAP
        have HAP := HAP'
        clear HAP'
        refine hK _ _ ⟨⟨fun _ => trivial, by rw [HBD.out]; exact HAP.out.bel⟩, ?_⟩
        clear hK K hr hk
        (try simp only [Tm.val])
        refine mix4_two ?w9x0 ?w9x1
        case' w9x0 =>
          (try simp only [Act.put, List.setIfInBounds_toArray, List.set_cons_succ, List.set_cons_zero, List.getElem_toArray, List.getElem_cons_succ, List.getElem_cons_zero])
          refine mix4_op rfl rfl (fun K hK => ?_)
          have HCC := Lib.hid (IN7.out y2 HAP.out.bel)
          (try simp only [Tm.val] at HCC)
          go_wp2_with fail
          refine HCC.out.mono ?_; clear HCC
          rintro e y3 ⟨A7, c7, rfl, hr, hk⟩
          have HI7 : Hid (InstA y3 [p9] y A7 c7) := Lib.hid (InstA.new HAP.out hr hk)
          have HI3' := Lib.hid (HI3.out.call hk)
          clear HI3
          have HI3 := HI3'
          clear HI3'
          have HAP' := Lib.hid (HAP.out.call hk)
          clear HAP
          have HAP := HAP'
          clear HAP'
          refine hK _ _ ⟨⟨fun _ => trivial, by rw [HBD.out]; exact HAP.out.bel⟩, ?_⟩
          clear hK K hr hk
          (try simp only [Tm.val])
          (try simp only [Act.put, List.setIfInBounds_toArray, List.set_cons_succ, List.set_cons_zero, List.getElem_toArray, List.getElem_cons_succ, List.getElem_cons_zero])
          refine mix4_op rfl rfl (fun K hK => ?_)
          go_wp2_with fail
          obtain ⟨y4, hw⟩ : ∃ Z, Z = y3.alloc (.cells #[.int .i64 0, .string ⟨#[]⟩, .int .i64 0, .slice none 0 0] 35) := ⟨_, rfl⟩
          rw [← hw]
          have HI3' := Lib.hid (HI3.out.alloc hw)
          clear HI3
          have HI3 := HI3'
          clear HI3'
          have HI7' := Lib.hid (HI7.out.alloc hw)
          clear HI7
          have HI7 := HI7'
          clear HI7'
          have HAP' := Lib.hid (HAP.out.alloc hw)
          clear HAP
          have HAP := HAP'
          clear HAP'
          obtain ⟨p8, hp⟩ : ∃ p, p = y3.heap.size := ⟨_, rfl⟩
          rw [← hp] at HAP HI3 HI7
          rw [← hp]
          refine ⟨⟨fun _ => trivial, by rw [HBD.out]; exact HAP.out.bel⟩, ?_⟩
          clear hw hp
        case' w9x1 =>
          (try simp only [Act.put, List.setIfInBounds_toArray, List.set_cons_succ, List.set_cons_zero, List.getElem_toArray, List.getElem_cons_succ, List.getElem_cons_zero])
          refine mix4_op rfl rfl (fun K hK => ?_)
          go_wp2_with fail
          obtain ⟨y3, hw⟩ : ∃ Z, Z = y2.alloc (.cells #[.int .i64 0, .string ⟨#[]⟩, .int .i64 0, .slice none 0 0] 35) := ⟨_, rfl⟩
          rw [← hw]
          have HI3' := Lib.hid (HI3.out.alloc hw)
          clear HI3
          have HI3 := HI3'
          clear HI3'
          have HAP' := Lib.hid (HAP.out.alloc hw)
          clear HAP
          have HAP := HAP'
          clear HAP'
          obtain ⟨p8, hp⟩ : ∃ p, p = y2.heap.size := ⟨_, rfl⟩
          rw [← hp] at HAP HI3
          rw [← hp]
          refine ⟨⟨fun _ => trivial, by rw [HBD.out]; exact HAP.out.bel⟩, ?_⟩
          clear hw hp
          (try simp only [Act.put, List.setIfInBounds_toArray, List.set_cons_succ, List.set_cons_zero, List.getElem_toArray, List.getElem_cons_succ, List.getElem_cons_zero])
          refine mix4_op rfl rfl (fun K hK => ?_)
          have HCC := Lib.hid (IN7.out y3 HAP.out.bel)
          (try simp only [Tm.val] at HCC)
          go_wp2_with fail
          refine HCC.out.mono ?_; clear HCC
          rintro e y4 ⟨A7, c7, rfl, hr, hk⟩
          have HI7 : Hid (InstA y4 [p8, p9] y A7 c7) := Lib.hid (InstA.new HAP.out hr hk)
          have HI3' := Lib.hid (HI3.out.call hk)
          clear HI3
          have HI3 := HI3'
          clear HI3'
          have HAP' := Lib.hid (HAP.out.call hk)
          clear HAP
          have HAP := HAP'
          clear HAP'
          refine hK _ _ ⟨⟨fun _ => trivial, by rw [HBD.out]; exact HAP.out.bel⟩, ?_⟩
          clear hK K hr hk
          (try simp only [Tm.val])
      case' w8x1 =>
        (try simp only [Act.put, List.setIfInBounds_toArray, List.set_cons_succ, List.set_cons_zero, List.getElem_toArray, List.getElem_cons_succ, List.getElem_cons_zero])
        refine mix4_op rfl rfl (fun K hK => ?_)
        go_wp2_with fail
        obtain ⟨y2, hw⟩ : ∃ Z, Z = y1.alloc (.cells #[.int .i64 0, .string ⟨#[]⟩, .int .i64 0, .slice none 0 0] 35) := ⟨_, rfl⟩
        rw [← hw]
        have HAP' := Lib.hid (HAP.out.alloc hw)
        clear HAP
        have HAP := HAP'
        clear HAP'
        obtain ⟨p8, hp⟩ : ∃ p, p = y1.heap.size := ⟨_, rfl⟩
        rw [← hp] at HAP
        rw [← hp]
        refine ⟨⟨fun _ => trivial, by rw [HBD.out]; exact HAP.out.bel⟩, ?_⟩
        clear hw hp
        (try simp only [Act.put, List.setIfInBounds_toArray, List.set_cons_succ, List.set_cons_zero, List.getElem_toArray, List.getElem_cons_succ, List.getElem_cons_zero])
        refine mix4_op rfl rfl (fun K hK => ?_)
        have HCC := Lib.hid (IN3.out y2 HAP.out.bel)
        (try simp only [Tm.val] at HCC)
        go_wp2_with fail
        refine HCC.out.mono ?_; clear HCC
        rintro e y3 ⟨A3, c3, rfl, hr, hk⟩
        have HI3 : Hid (InstA y3 [p8, p9] x A3 c3) := Lib.hid (InstA.new HAP.out hr hk)
        have HAP' := Lib.hid (HAP.out.call hk)
        clear HAP
        have HAP := HAP'
        clear HAP'
        refine hK _ _ ⟨⟨fun _ => trivial, by rw [HBD.out]; exact HAP.out.bel⟩, ?_⟩
        clear hK K hr hk
        (try simp only [Tm.val])
        (try simp only [Act.put, List.setIfInBounds_toArray, List.set_cons_succ, List.set_cons_zero, List.getElem_toArray, List.getElem_cons_succ, List.getElem_cons_zero])
        refine mix4_op rfl rfl (fun K hK => ?_)
        have HCC := Lib.hid (IN7.out y3 HAP.out.bel)
        (try simp only [Tm.val] at HCC)
        go_wp2_with fail
        refine HCC.out.mono ?_; clear HCC
        rintro e y4 ⟨A7, c7, rfl, hr, hk⟩
        have HI7 : Hid (InstA y4 [p8, p9] y A7 c7) := Lib.hid (InstA.new HAP.out hr hk)
        have HI3' := Lib.hid (HI3.out.call hk)
        clear HI3
        have HI3 := HI3'
        clear HI3'
        have HAP' := Lib.hid (HAP.out.call hk)
        clear HAP
        have HAP := HAP'
        clear HAP'
        refine hK _ _ ⟨⟨fun _ => trivial, by rw [HBD.out]; exact HAP.out.bel⟩, ?_⟩
        clear hK K hr hk
        (try simp only [Tm.val])
    all_goals
      obtain ⟨Z1, hZ1⟩ : ∃ Z1, Z1 = (((y4.setCell ⟨p8, 0, none⟩ (.int .i64 x.kind)).setCell ⟨p8, 1, none⟩ (.string x.name)).setCell ⟨p8, 2, none⟩ (.int .i64 x.sort)).setCell ⟨p8, 3, none⟩ (.slice A3 x.kids.length c3) := ⟨_, rfl⟩
      obtain ⟨Z2, hZ2⟩ : ∃ Z2, Z2 = (((Z1.setCell ⟨p9, 0, none⟩ (.int .i64 y.kind)).setCell ⟨p9, 1, none⟩ (.string y.name)).setCell ⟨p9, 2, none⟩ (.int .i64 y.sort)).setCell ⟨p9, 3, none⟩ (.slice A7 y.kids.length c7) := ⟨_, rfl⟩
      obtain ⟨hb1, hq1, htwo⟩ := two_of HAP.out (p := p8) (q := p9) (by simp) (by simp) (by have := HAP.out.nd; simp at this; omega) HI3.out HI7.out hZ1 hZ2
      have HTWO := Lib.hid htwo
      have HB1 := Lib.hid hb1
      have HQ1 := Lib.hid hq1
      obtain ⟨d0, d1, d2, d3, df⟩ := box_at (show y4.heap[p8]? = some zeroB from (HAP.out.bx p8 (by simp)).2.2)
      clear hb1 hq1 htwo
      (try simp only [Act.put, List.setIfInBounds_toArray, List.set_cons_succ, List.set_cons_zero, List.getElem_toArray, List.getElem_cons_succ, List.getElem_cons_zero])
      refine mix4_op rfl rfl (fun K hK => ?_)
      go_wp2_with fail
      rw [← hZ1]
      refine ⟨⟨fun _ => trivial, by rw [HBD.out]; exact HB1.out⟩, ?_⟩
      clear d0 d1 d2 d3 df hZ1 HAP HI3 HI7
      obtain ⟨d0, d1, d2, d3, df⟩ := box_at (show Z1.heap[p9]? = some zeroB from HQ1.out)
      (try simp only [Act.put, List.setIfInBounds_toArray, List.set_cons_succ, List.set_cons_zero, List.getElem_toArray, List.getElem_cons_succ, List.getElem_cons_zero])
      refine mix4_op rfl rfl (fun K hK => ?_)
      go_wp2_with fail
      rw [← hZ2]
      refine ⟨⟨fun _ => trivial, by rw [HBD.out]; exact HTWO.out.bel⟩, ?_⟩
      clear d0 d1 d2 d3 df hZ2
      (try simp only [Act.put, List.setIfInBounds_toArray, List.set_cons_succ, List.set_cons_zero, List.getElem_toArray, List.getElem_cons_succ, List.getElem_cons_zero])
      refine mix4_nil ?_
      go_wp2_with fail
      go_meet
      case rel => exact ⟨p8, p9, A3, c3, A7, c7, rfl, rfl, HTWO.out⟩
  case rest =>
    obtain ⟨p8, p9, A3, c3, A7, c7, rfl, rfl, htwo⟩ := hcut
    have hlt0 : w.heap.size < w3.drew.heap.size := by have := HSB.out; rw [HBD.out] at this; exact this
    have hb3 : Below w3.heap.size w3 wc := (Below.refl w3.heap.size w3).drew.trans htwo.bel
    have HXT : Hid (wc.heap[w.heap.size]? = some (.cells #[.int .i64 t.kind, .string t.name, .int .i64 t.sort, .slice A t.kids.length cap] 35 (0, 0))) := Lib.hid ((htwo.bel.block _ hlt0).trans HX3.out)
    have HRT := Lib.hid (HR3.out.go hb3 hb3.size)
    have HBC := Lib.hid (below_then HB3.out hb3 HB3.out.size)
    have HT := Lib.hid htwo
    clear htwo hb3 hlt0 HX3 HR3 HB3 IN3 IN7 hau hau2 hbu hbu2 hwa hwb
    obtain ⟨x0, x1, x2, x3, -⟩ := box_at HT.out.bp
    obtain ⟨y0, y1, y2, y3, -⟩ := box_at HT.out.bq
    obtain ⟨r0, r1, r2, r3, -⟩ := box_at HXT.out
    have HSA := Lib.hid (rsame_any x t A3 A c3 cap wc HXZ.out (by have := HSZ.out; omega) HT.out.rp HRT.out)
    by_cases hxt : x = t
    case' pos =>
      rw [Tm.same_iff.2 hxt] at HSA
    case' neg =>
      rw [Tm.same_false.2 hxt] at HSA
    all_goals simp only [Tm.val] at HSA
    case pos =>
      clear hxt
      go_wp2_with fail
      refine HSA.out.mono ?_
      rintro e w4 ⟨rfl, hl4⟩
      have HB4 := Lib.hid (below_then HBC.out hl4.below HBC.out.size)
      clear hl4 HSA
      clear x0 x1 x2 x3 y0 y1 y2 y3 r0 r1 r2 r3
      go_wp2_with fail
      go_ret
      exact ⟨rfl, HB4.out⟩
    case neg =>
    go_wp2_with fail
    refine HSA.out.mono ?_; clear HSA
    rintro e w4 ⟨rfl, hl4⟩
    have hb4 := hl4.below
    clear hl4
    clear x0 x1 x2 x3 y0 y1 y2 y3 r0 r1 r2 r3
    have HTn := Lib.hid (HT.out.go hb4)
    have HXTn := Lib.hid ((hb4.block _ (Array.getElem?_eq_some_iff.1 HXT.out).1).trans HXT.out)
    have HRTn := Lib.hid (HRT.out.go hb4 hb4.size)
    have HBCn := Lib.hid (below_then HBC.out hb4 HBC.out.size)
    clear HT HXT HRT HBC
    have HT := HTn
    have HXT := HXTn
    have HRT := HRTn
    have HBC := HBCn
    clear HTn HXTn HRTn HBCn hb4
    obtain ⟨x0, x1, x2, x3, -⟩ := box_at HT.out.bp
    obtain ⟨y0, y1, y2, y3, -⟩ := box_at HT.out.bq
    obtain ⟨r0, r1, r2, r3, -⟩ := box_at HXT.out
    have HSA := Lib.hid (rsame_any y t A7 A c7 cap w4 HYZ.out (by have := HSZ.out; omega) HT.out.rq HRT.out)
    by_cases hyt : y = t
    case' pos =>
      rw [Tm.same_iff.2 hyt] at HSA
    case' neg =>
      rw [Tm.same_false.2 hyt] at HSA
    all_goals simp only [Tm.val] at HSA
    case pos =>
      clear hyt
      go_wp2_with fail
      refine HSA.out.mono ?_
      rintro e w5 ⟨rfl, hl5⟩
      have HB5 := Lib.hid (below_then HBC.out hl5.below HBC.out.size)
      clear hl5 HSA
      clear x0 x1 x2 x3 y0 y1 y2 y3 r0 r1 r2 r3
      go_wp2_with fail
      go_ret
      exact ⟨rfl, HB5.out⟩
    case neg =>
    have HAP2 : Hid (∀ u : Tm, u ∈ x.all → u ∈ y.all → u.kind = 2 → u ∈ t.all) := Lib.hid fun u => HAPT.out u hxt hyt
    clear HAPT hxt hyt
    obtain ⟨L0, hL0⟩ : ∃ L, L = Tm.set (t.all.filter fun u => u.kind == 2) := ⟨_, rfl⟩
    obtain ⟨Lx, hLx⟩ : ∃ L, L = Tm.set (x.all.filter fun u => u.kind == 2) := ⟨_, rfl⟩
    obtain ⟨Ly, hLy⟩ : ∃ L, L = Tm.set (y.all.filter fun u => u.kind == 2) := ⟨_, rfl⟩
    have HM : Hid (∀ u ∈ Lx, u ∈ Ly → u ∈ L0) := Lib.hid fun u h1 h2 => by
      rw [hLx, Tm.mem_set, List.mem_filter] at h1
      rw [hLy, Tm.mem_set, List.mem_filter] at h2
      rw [hL0, Tm.mem_set, List.mem_filter]
      exact ⟨HAP2.out u h1.1 h2.1 (by simpa using h1.2), h1.2⟩
    have HZ0 : Hid (∀ u ∈ L0, u.size ≤ 1000000) := Lib.hid fun u h => by
      rw [hL0, Tm.mem_set, List.mem_filter] at h; have := Tm.mem_all_size t u h.1; have := HSZ.out; omega
    have HZX : Hid (∀ u ∈ Lx, u.size ≤ 1000000) := Lib.hid fun u h => by
      rw [hLx, Tm.mem_set, List.mem_filter] at h; have := Tm.mem_all_size x u h.1; have := HXZ.out; omega
    have HZY : Hid (∀ u ∈ Ly, u.size ≤ 1000000) := Lib.hid fun u h => by
      rw [hLy, Tm.mem_set, List.mem_filter] at h; have := Tm.mem_all_size y u h.1; have := HYZ.out; omega
    have hlx : Lx.length ≤ 1000000 := by
      have h1 := Tm.set_length (x.all.filter fun u => u.kind == 2)
      have h2 := List.length_filter_le (fun u : Tm => u.kind == 2) x.all
      rw [Tm.all_length] at h2
      rw [hLx]; have := HXZ.out; omega
    have HA0 : Hid (∀ X, RepT X X.heap.size t A cap → Calls Tryd.prog 21 #[t.val A cap] X (ListS X L0)) := Lib.hid fun X hX => by
      rw [hL0]; exact (ratoms_any t A cap X X.heap.size (Nat.le_refl _) (by have := HSZ.out; omega) hX).mono fun _ _ h => h.toL
    have HAX : Hid (∀ X, RepT X X.heap.size x A3 c3 → Calls Tryd.prog 21 #[x.val A3 c3] X (ListS X Lx)) := Lib.hid fun X hX => by
      rw [hLx]; exact (ratoms_any x A3 c3 X X.heap.size (Nat.le_refl _) HXZ.out hX).mono fun _ _ h => h.toL
    have HAY : Hid (∀ X, RepT X X.heap.size y A7 c7 → Calls Tryd.prog 21 #[y.val A7 c7] X (ListS X Ly)) := Lib.hid fun X hX => by
      rw [hLy]; exact (ratoms_any y A7 c7 X X.heap.size (Nat.le_refl _) HYZ.out hX).mono fun _ _ h => h.toL
    clear hL0 hLx hLy HAP2
    go_wp2_with fail
    refine HSA.out.mono ?_; clear HSA
    rintro e w5 ⟨rfl, hl5⟩
    have hb5 := hl5.below
    clear hl5
    clear x0 x1 x2 x3 y0 y1 y2 y3 r0 r1 r2 r3
    have HTn := Lib.hid (HT.out.go hb5)
    have HXTn := Lib.hid ((hb5.block _ (Array.getElem?_eq_some_iff.1 HXT.out).1).trans HXT.out)
    have HRTn := Lib.hid (HRT.out.go hb5 hb5.size)
    have HBCn := Lib.hid (below_then HBC.out hb5 HBC.out.size)
    clear HT HXT HRT HBC
    have HT := HTn
    have HXT := HXTn
    have HRT := HRTn
    have HBC := HBCn
    clear HTn HXTn HRTn HBCn hb5
    obtain ⟨x0, x1, x2, x3, -⟩ := box_at HT.out.bp
    obtain ⟨y0, y1, y2, y3, -⟩ := box_at HT.out.bq
    obtain ⟨r0, r1, r2, r3, -⟩ := box_at HXT.out
    have HCC := Lib.hid (HA0.out w5 HRT.out)
    simp only [Tm.val] at HCC
    go_wp2_with fail
    refine HCC.out.mono ?_; clear HCC HA0
    rintro e w6 ⟨A9, c9, rfl, hS0, hb6⟩
    clear x0 x1 x2 x3 y0 y1 y2 y3 r0 r1 r2 r3
    have HTn := Lib.hid (HT.out.go hb6)
    have HXTn := Lib.hid ((hb6.block _ (Array.getElem?_eq_some_iff.1 HXT.out).1).trans HXT.out)
    have HRTn := Lib.hid (HRT.out.go hb6 hb6.size)
    have HBCn := Lib.hid (below_then HBC.out hb6 HBC.out.size)
    clear HT HXT HRT HBC
    have HT := HTn
    have HXT := HXTn
    have HRT := HRTn
    have HBC := HBCn
    clear HTn HXTn HRTn HBCn hb6
    have S0 := Lib.hid hS0
    clear hS0
    obtain ⟨x0, x1, x2, x3, -⟩ := box_at HT.out.bp
    obtain ⟨y0, y1, y2, y3, -⟩ := box_at HT.out.bq
    obtain ⟨r0, r1, r2, r3, -⟩ := box_at HXT.out
    have HCC := Lib.hid (HAX.out w6 HT.out.rp)
    simp only [Tm.val] at HCC
    go_wp2_with fail
    refine HCC.out.mono ?_; clear HCC HAX
    rintro e w7 ⟨A49, c49, rfl, hSx, hb7⟩
    clear x0 x1 x2 x3 y0 y1 y2 y3 r0 r1 r2 r3
    have HTn := Lib.hid (HT.out.go hb7)
    have HXTn := Lib.hid ((hb7.block _ (Array.getElem?_eq_some_iff.1 HXT.out).1).trans HXT.out)
    have HRTn := Lib.hid (HRT.out.go hb7 hb7.size)
    have HBCn := Lib.hid (below_then HBC.out hb7 HBC.out.size)
    have S0n := Lib.hid (S0.out.fwd hb7)
    clear HT HXT HRT HBC S0
    have HT := HTn
    have HXT := HXTn
    have HRT := HRTn
    have HBC := HBCn
    have S0 := S0n
    clear HTn HXTn HRTn HBCn S0n hb7
    have SX := Lib.hid hSx
    have hcx := hSx.1
    have hcx' := hSx.2.1
    unfold maxLen at hcx'
    clear hSx
    go_wp2_with fail
    go_loopw [51] (fun i wr => ∃ k : Nat, k ≤ Lx.length ∧ i = .int .i64 k ∧ Hid (Below w7.heap.size w7 wr)) (fun i _ => Lx.length - (intOf i).toNat)
    case atStart => exact ⟨0, Nat.zero_le _, rfl, Below.refl _ _⟩
    case round =>
      obtain ⟨wo, hwo⟩ : ∃ x, x = wr := ⟨_, rfl⟩
      subst hwo
      obtain ⟨k, hk, rfl, HBW⟩ := hrel
      have i1 : (0 : Int) ≤ (k : Int) := Int.natCast_nonneg _
      by_cases hlt : k < Lx.length
      · have i2 : (k : Int) < (Lx.length : Int) := by omega
        obtain ⟨b', off, A11, c11, hA7, t0, t1, t2, t3, hrt⟩ := repS_at0 (SX.out.fwd HBW.out) k hlt
        subst hA7
        have hin := HM.out Lx[k] (List.getElem_mem hlt)
        have hsm := HZX.out Lx[k] (List.getElem_mem hlt)
        obtain ⟨Z, hZ⟩ : ∃ Z, Z = wo.alloc (boxT Lx[k] A11 c11) := ⟨_, rfl⟩
        have hbZ : Below wo.heap.size wo Z := by rw [hZ]; exact below1 (Nat.le_refl _) _
        have hzb : Z.heap[wo.heap.size]? = some (boxT Lx[k] A11 c11) := by rw [hZ]; exact heap_alloc_new _ _
        have hbz7 := HBW.out.trans (hbZ.mono HBW.out.size)
        have HT2 := Lib.hid (HT.out.go hbz7)
        have HS2 := Lib.hid (S0.out.fwd hbz7)
        have HBZ := Lib.hid hbz7
        have HRU := Lib.hid (hrt.go hbZ hbZ.size)
        have HZB := Lib.hid hzb
        generalize Lx[k] = tt at *
        have HIN : Hid (tt ∈ Ly → tt ∈ L0) := Lib.hid hin
        have HSM := Lib.hid hsm
        have HLZ : Hid (wo.heap.size < Z.heap.size) := Lib.hid (Array.getElem?_eq_some_iff.1 HZB.out).1
        unfold boxT at hZ
        have HZ := Lib.hid hZ
        clear hzb hbZ hrt hin hsm hZ hbz7
        obtain ⟨q, hq⟩ : ∃ q, q = hasT Ly tt := ⟨_, rfl⟩
        have HHY : Hid (∀ (X : World) B d C e, RepS X (fun b => b < X.heap.size) Ly B d → RepT X X.heap.size tt C e → Calls Tryd.prog 22 #[.slice B Ly.length d, tt.val C e] X fun e' w' => e' = .returned (.bool q) ∧ Below X.heap.size X w') := Lib.hid fun X B d C e h1 h2 => by
          rw [hq]; exact (rhas_any Ly B d tt C e X HZY.out HSM.out h1 h2).mono fun _ _ h => ⟨h.1, h.2.below⟩
        have HH0 : Hid (∀ (X : World) B d C e, q = true → RepS X (fun b => b < X.heap.size) L0 B d → RepT X X.heap.size tt C e → Calls Tryd.prog 22 #[.slice B L0.length d, tt.val C e] X fun e' w' => e' = .returned (.bool true) ∧ Below X.heap.size X w') := Lib.hid fun X B d C e h0 h1 h2 => by
          have h3 := HIN.out (by rw [hq, hasT_iff] at h0; exact of_decide_eq_true h0)
          have h4 : hasT L0 tt = true := by rw [hasT_iff]; exact decide_eq_true h3
          rw [← h4]; exact (rhas_any L0 B d tt C e X HZ0.out HSM.out h1 h2).mono fun _ _ h => ⟨h.1, h.2.below⟩
        clear hq HIN
        go_wp2_with fail
        rw [← HZ.out]
        cases q with
        | true =>
          refine wp_region_mix4 (fun _ => True) (fun Y => Below Z.drew.heap.size Z.drew Y) [] (.held 0 (.held 2 (.op 1 (.op 3 (.held 4 (.held 5 (.held 6 (.op 7 (.held 8 (.held 9 .nil)))))))))) mixed (by kernel_rfl) ?_
          have HQB : Hid (Z.drew.heap[p9]? = some (boxT y A7 c7)) := Lib.hid HT2.out.bq
          have HLQ : Hid (p9 < Z.drew.heap.size) := Lib.hid (Array.getElem?_eq_some_iff.1 HT2.out.bq).1
          have HUB : Hid (Z.drew.heap[wo.heap.size]? = some (boxT tt A11 c11)) := HZB
          have HUL : Hid (wo.heap.size < Z.drew.heap.size) := HLZ
          have HRY : Hid (RepT Z.drew Z.drew.heap.size y A7 c7) := Lib.hid (HT2.out.rq.go (Below.refl Z.heap.size Z).drew (Nat.le_refl _))
          have HRD : Hid (RepT Z.drew Z.drew.heap.size tt A11 c11) := Lib.hid (HRU.out.go (Below.refl Z.heap.size Z).drew (Nat.le_refl _))
          have HSD : Hid (RepS Z.drew (fun b => b < Z.drew.heap.size) L0 A9 c9) := Lib.hid (HS2.out.fwd (Below.refl Z.heap.size Z).drew)
          have HBD2 := Lib.hid (HBZ.out.trans ((Below.refl Z.heap.size Z).drew.mono HBZ.out.size))
          clear HT2 HZB HLZ HRU HS2 HBZ HZ t0 t1 t2 t3
          generalize Z.drew = D at *
          refine mix4_take (v := .agg #[.int .i64 y.kind, .string y.name, .int .i64 y.sort, .slice A7 y.kids.length c7]) rfl rfl rfl (fun _ _ _ h => h) trivial (Below.refl D.heap.size D) (fun Y _ hY => by
            obtain ⟨z0, z1, z2, z3, -⟩ := box_at ((hY.block _ HLQ.out).trans HQB.out)
            clear hY
            (try simp only [Act.put]); go_simp) ?_
          refine mix4_take (v := .agg #[.int .i64 tt.kind, .string tt.name, .int .i64 tt.sort, .slice A11 tt.kids.length c11]) rfl rfl rfl (fun _ _ _ h => h) trivial (Below.refl D.heap.size D) (fun Y _ hY => by
            obtain ⟨z0, z1, z2, z3, -⟩ := box_at ((hY.block _ HUL.out).trans HUB.out)
            clear hY
            (try simp only [Act.put]); go_simp) ?_
          (try simp only [Act.put, List.setIfInBounds_toArray, List.set_cons_succ, List.set_cons_zero, List.getElem_toArray, List.getElem_cons_succ, List.getElem_cons_zero])
          refine mix4_op rfl rfl (fun K hK => ?_)
          have HCC := Lib.hid (HAY.out D (HRY.out.go (Below.refl D.heap.size D) (Below.size (Below.refl D.heap.size D))))
          (try simp only [castV, Tm.val] at HCC)
          go_wp2_with fail
          refine HCC.out.mono ?_; clear HCC
          rintro e y1 ⟨A56, c56, rfl, hs56, hb56⟩
          have HB1 := Lib.hid (Below.trans (Below.refl D.heap.size D) (hb56.mono (Below.size (Below.refl D.heap.size D))))
          refine hK _ _ ⟨⟨fun _ => trivial, HB1.out⟩, ?_⟩
          clear hK K
          have S56 := Lib.hid hs56
          clear hs56 hb56
          (try simp only [Act.put, List.setIfInBounds_toArray, List.set_cons_succ, List.set_cons_zero, List.getElem_toArray, List.getElem_cons_succ, List.getElem_cons_zero])
          refine mix4_op rfl rfl (fun K hK => ?_)
          have HCC := Lib.hid (HHY.out y1 A56 c56 A11 c11 S56.out (HRD.out.go HB1.out (Below.size HB1.out)))
          (try simp only [castV, Tm.val] at HCC)
          go_wp2_with fail
          refine HCC.out.mono ?_; clear HCC
          rintro e y3 ⟨rfl, hb58⟩
          have HB3 := Lib.hid (Below.trans HB1.out (hb58.mono (Below.size HB1.out)))
          refine hK _ _ ⟨⟨fun _ => trivial, HB3.out⟩, ?_⟩
          clear hK K
          clear hb58 S56
          refine mix4_take (v := .bool true) rfl rfl rfl (fun _ _ _ h => h) trivial HB3.out (fun Y _ hY => by
            (try simp only [Act.put]); go_simp) ?_
          refine mix5_take_g (v := .slice A9 L0.length c9) rfl (by kernel_rfl) rfl (fun _ _ _ h => h) trivial HB3.out (fun Y _ hY => by
            (try simp only [Act.put]); go_simp) ?_
          (try simp only [Act.put, List.setIfInBounds_toArray, List.set_cons_succ, List.set_cons_zero, List.getElem_toArray, List.getElem_cons_succ, List.getElem_cons_zero])
          refine mix5_take_g (v := .agg #[.int .i64 tt.kind, .string tt.name, .int .i64 tt.sort, .slice A11 tt.kids.length c11]) rfl (by kernel_rfl) rfl (fun _ _ _ h => h) trivial HB3.out (fun Y _ hY => by
            obtain ⟨z0, z1, z2, z3, -⟩ := box_at ((hY.block _ HUL.out).trans HUB.out)
            clear hY
            (try simp only [Act.put]); go_simp) ?_
          (try simp only [Act.put, List.setIfInBounds_toArray, List.set_cons_succ, List.set_cons_zero, List.getElem_toArray, List.getElem_cons_succ, List.getElem_cons_zero])
          (try simp only [Act.put, List.setIfInBounds_toArray, List.set_cons_succ, List.set_cons_zero, List.getElem_toArray, List.getElem_cons_succ, List.getElem_cons_zero])
          refine mix4_op_g rfl (by kernel_rfl) (fun K hK => ?_)
          have HCC := Lib.hid (HH0.out y3 A9 c9 A11 c11 (by trivial) (HSD.out.fwd HB3.out) (HRD.out.go HB3.out (Below.size HB3.out)))
          (try simp only [castV, Tm.val] at HCC)
          go_wp2_with fail
          refine HCC.out.mono ?_; clear HCC
          rintro e y7 ⟨rfl, hb62⟩
          have HB7 := Lib.hid (Below.trans HB3.out (hb62.mono (Below.size HB3.out)))
          refine hK _ _ ⟨⟨fun _ => trivial, HB7.out⟩, ?_⟩
          clear hK K
          clear hb62
          refine mix5_take_g (v := .bool false) rfl (by kernel_rfl) rfl (fun _ _ _ h => h) trivial HB7.out (fun Y _ hY => by
            (try simp only [Act.put]); go_simp) ?_
          (try simp only [Act.put, List.setIfInBounds_toArray, List.set_cons_succ, List.set_cons_zero, List.getElem_toArray, List.getElem_cons_succ, List.getElem_cons_zero])
          refine mix4_take (v := .bool false) rfl rfl rfl (fun _ _ _ h => h) trivial HB7.out (fun Y _ hY => by
            (try simp only [Act.put]); go_simp) ?_
          (try simp only [Act.put, List.setIfInBounds_toArray, List.set_cons_succ, List.set_cons_zero, List.getElem_toArray, List.getElem_cons_succ, List.getElem_cons_zero])
          refine mix4_nil ?_
          have HBF := Lib.hid (HBD2.out.trans (Below.mono HB7.out HBD2.out.size))
          go_wp2_with fail
          go_roundw
          case rel => exact ⟨k + 1, by omega, by go_num, HBF.out⟩
          case measure => simp [intOf]; omega
        | false =>
          refine wp_region_mix4 (fun _ => True) (fun Y => Below Z.drew.heap.size Z.drew Y) [] (.held 0 (.held 2 (.op 1 (.op 3 (.held 4 (.held 5 (.held 6 (.held 7 (.held 8 (.held 9 .nil)))))))))) mixed (by kernel_rfl) ?_
          have HQB : Hid (Z.drew.heap[p9]? = some (boxT y A7 c7)) := Lib.hid HT2.out.bq
          have HLQ : Hid (p9 < Z.drew.heap.size) := Lib.hid (Array.getElem?_eq_some_iff.1 HT2.out.bq).1
          have HUB : Hid (Z.drew.heap[wo.heap.size]? = some (boxT tt A11 c11)) := HZB
          have HUL : Hid (wo.heap.size < Z.drew.heap.size) := HLZ
          have HRY : Hid (RepT Z.drew Z.drew.heap.size y A7 c7) := Lib.hid (HT2.out.rq.go (Below.refl Z.heap.size Z).drew (Nat.le_refl _))
          have HRD : Hid (RepT Z.drew Z.drew.heap.size tt A11 c11) := Lib.hid (HRU.out.go (Below.refl Z.heap.size Z).drew (Nat.le_refl _))
          have HSD : Hid (RepS Z.drew (fun b => b < Z.drew.heap.size) L0 A9 c9) := Lib.hid (HS2.out.fwd (Below.refl Z.heap.size Z).drew)
          have HBD2 := Lib.hid (HBZ.out.trans ((Below.refl Z.heap.size Z).drew.mono HBZ.out.size))
          clear HT2 HZB HLZ HRU HS2 HBZ HZ t0 t1 t2 t3
          generalize Z.drew = D at *
          refine mix4_take (v := .agg #[.int .i64 y.kind, .string y.name, .int .i64 y.sort, .slice A7 y.kids.length c7]) rfl rfl rfl (fun _ _ _ h => h) trivial (Below.refl D.heap.size D) (fun Y _ hY => by
            obtain ⟨z0, z1, z2, z3, -⟩ := box_at ((hY.block _ HLQ.out).trans HQB.out)
            clear hY
            (try simp only [Act.put]); go_simp) ?_
          refine mix4_take (v := .agg #[.int .i64 tt.kind, .string tt.name, .int .i64 tt.sort, .slice A11 tt.kids.length c11]) rfl rfl rfl (fun _ _ _ h => h) trivial (Below.refl D.heap.size D) (fun Y _ hY => by
            obtain ⟨z0, z1, z2, z3, -⟩ := box_at ((hY.block _ HUL.out).trans HUB.out)
            clear hY
            (try simp only [Act.put]); go_simp) ?_
          (try simp only [Act.put, List.setIfInBounds_toArray, List.set_cons_succ, List.set_cons_zero, List.getElem_toArray, List.getElem_cons_succ, List.getElem_cons_zero])
          refine mix4_op rfl rfl (fun K hK => ?_)
          have HCC := Lib.hid (HAY.out D (HRY.out.go (Below.refl D.heap.size D) (Below.size (Below.refl D.heap.size D))))
          (try simp only [castV, Tm.val] at HCC)
          go_wp2_with fail
          refine HCC.out.mono ?_; clear HCC
          rintro e y1 ⟨A56, c56, rfl, hs56, hb56⟩
          have HB1 := Lib.hid (Below.trans (Below.refl D.heap.size D) (hb56.mono (Below.size (Below.refl D.heap.size D))))
          refine hK _ _ ⟨⟨fun _ => trivial, HB1.out⟩, ?_⟩
          clear hK K
          have S56 := Lib.hid hs56
          clear hs56 hb56
          (try simp only [Act.put, List.setIfInBounds_toArray, List.set_cons_succ, List.set_cons_zero, List.getElem_toArray, List.getElem_cons_succ, List.getElem_cons_zero])
          refine mix4_op rfl rfl (fun K hK => ?_)
          have HCC := Lib.hid (HHY.out y1 A56 c56 A11 c11 S56.out (HRD.out.go HB1.out (Below.size HB1.out)))
          (try simp only [castV, Tm.val] at HCC)
          go_wp2_with fail
          refine HCC.out.mono ?_; clear HCC
          rintro e y3 ⟨rfl, hb58⟩
          have HB3 := Lib.hid (Below.trans HB1.out (hb58.mono (Below.size HB1.out)))
          refine hK _ _ ⟨⟨fun _ => trivial, HB3.out⟩, ?_⟩
          clear hK K
          clear hb58 S56
          refine mix4_take (v := .bool false) rfl rfl rfl (fun _ _ _ h => h) trivial HB3.out (fun Y _ hY => by
            (try simp only [Act.put]); go_simp) ?_
          refine mix5_off rfl (by kernel_rfl) rfl (fun _ _ _ h => h) trivial HB3.out ?_
          (try simp only [Act.put, List.setIfInBounds_toArray, List.set_cons_succ, List.set_cons_zero, List.getElem_toArray, List.getElem_cons_succ, List.getElem_cons_zero])
          refine mix5_off rfl (by kernel_rfl) rfl (fun _ _ _ h => h) trivial HB3.out ?_
          (try simp only [Act.put, List.setIfInBounds_toArray, List.set_cons_succ, List.set_cons_zero, List.getElem_toArray, List.getElem_cons_succ, List.getElem_cons_zero])
          refine mix5_off rfl (by kernel_rfl) rfl (fun _ _ _ h => h) trivial HB3.out ?_
          (try simp only [Act.put, List.setIfInBounds_toArray, List.set_cons_succ, List.set_cons_zero, List.getElem_toArray, List.getElem_cons_succ, List.getElem_cons_zero])
          refine mix5_off rfl (by kernel_rfl) rfl (fun _ _ _ h => h) trivial HB3.out ?_
          (try simp only [Act.put, List.setIfInBounds_toArray, List.set_cons_succ, List.set_cons_zero, List.getElem_toArray, List.getElem_cons_succ, List.getElem_cons_zero])
          refine mix4_take (v := .bool false) rfl rfl rfl (fun _ _ _ h => h) trivial HB3.out (fun Y _ hY => by
            (try simp only [Act.put]); go_simp) ?_
          (try simp only [Act.put, List.setIfInBounds_toArray, List.set_cons_succ, List.set_cons_zero, List.getElem_toArray, List.getElem_cons_succ, List.getElem_cons_zero])
          (try simp only [Act.put, List.setIfInBounds_toArray, List.set_cons_succ, List.set_cons_zero, List.getElem_toArray, List.getElem_cons_succ, List.getElem_cons_zero])
          refine mix4_nil ?_
          have HBF := Lib.hid (HBD2.out.trans (Below.mono HB3.out HBD2.out.size))
          go_wp2_with fail
          go_roundw
          case rel => exact ⟨k + 1, by omega, by go_num, HBF.out⟩
          case measure => simp [intOf]; omega
      · obtain rfl : k = Lx.length := by omega
        have HBF := Lib.hid (below_then HBC.out HBW.out HBC.out.size)
        go_wp2_with fail
        go_ret
        exact ⟨rfl, HBF.out⟩
end Go.Proofs.YtpjmdilpldaapaaDoor
