/- The examples of chapter 15: awake. -/
import Derived.Test.YtpjmdilpldaapaaDoorCmade
import Derived.Test.YtpjmdilpldaapaaDoorCinit
import Derived.Test.YtpjmdilpldaapaaDoorCsess
import Derived.Test.YtpjmdilpldaapaaDoorCinstance
import Derived.Test.YtpjmdilpldaapaaDoorCrterm
namespace Go.Proofs.YtpjmdilpldaapaaDoor
open Go.RowKit Go.Sort

def exC : List ByteArray := [sA, sB, sI]
theorem ex_valid : castE exC [sI] = 0 := by decide +kernel
theorem ex_init : (initE exC [sI]).length = 8 := by decide +kernel
theorem ex_s1 : sessEr exC [sI] 2 1 = 0 ∧ (sessLs exC [sI] 2 1).length = 8 := by decide +kernel
theorem ex_s2 : sessEr exC [sI] 2 2 = 0 ∧ (sessLs exC [sI] 2 2).length = 36 := by decide +kernel
def exT : Tm := .mk 3 ⟨#[112, 97, 105, 114]⟩ 0 [.mk 2 ⟨#[110, 97]⟩ 2 [], agT sA]
def exU : Tm := .mk 3 ⟨#[112, 97, 105, 114]⟩ 0 [.mk 2 ⟨#[110, 97, 35, 50]⟩ 2 [], agT sA]
theorem ex_check : exT.check = 0 := by rfl
theorem ex_inst : instT exT 2 = exU := by
  have hs : sufOf 2 = ⟨#[35, 50]⟩ := by unfold sufOf; rw [Lib.decDigits_one (by omega)]; rfl
  unfold instT
  rw [if_neg (by decide), show (2 : Int).toNat = 2 from rfl, hs]
  rfl

/-- what stands while awake is walked: two boxes of terms and the cast's -/
structure AwF (w W : World) (Aa : Option Addr) (ca : Nat) (Ab : Option Addr) (cb B : Nat) : Prop where
  box : W.heap[B]? = some (boxC exC [sI] Aa ca Ab cb)
  cast : CastW W exC [sI] Aa ca Ab cb
  below : Below w.heap.size w W
theorem AwF.go {w W W' : World} {Aa Ab : Option Addr} {ca cb B : Nat} (h : AwF w W Aa ca Ab cb B) (hb : Below W.heap.size W W') : AwF w W' Aa ca Ab cb B :=
  ⟨(hb.block _ (Array.getElem?_eq_some_iff.1 h.box).1).trans h.box, h.cast.below hb, h.below.trans (hb.mono h.below.size)⟩
/-- two leaves in a block -/
theorem two_leaves {w Z : World} {n m : ByteArray} {s s' : Int} (hn : n.size ≤ maxLen) (hm : m.size ≤ maxLen) (hZ : Z = w.alloc (.cells #[.int .i64 2, .string n, .int .i64 s, .slice none 0 0, .int .i64 2, .string m, .int .i64 s', .slice none 0 0] 35)) :
    RepS Z (fun b => b < Z.heap.size) [.mk 2 n s [], .mk 2 m s' []] (some ⟨w.heap.size, 0, none⟩) 2 := by
  have hb : Z.heap[w.heap.size]? = some (.cells #[.int .i64 2, .string n, .int .i64 s, .slice none 0 0, .int .i64 2, .string m, .int .i64 s', .slice none 0 0] 35 (0, 0)) := by rw [hZ]; exact heap_alloc_new _ _
  refine ⟨Nat.le_refl _, by decide, .inr ⟨w.heap.size, 0, rfl, (Array.getElem?_eq_some_iff.1 hb).1, ?_⟩⟩
  exact two_kids (l := []) (l' := []) hb (by rw [RepP_mk]; exact ⟨hn, Nat.le_refl _, Nat.zero_le _, .inl rfl⟩) (by rw [RepP_mk]; exact ⟨hm, Nat.le_refl _, Nat.zero_le _, .inl rfl⟩)

attribute [local irreducible] wpMix4
set_option linter.unusedSimpArgs false in
set_option maxHeartbeats 4000000 in
set_option maxRecDepth 100000 in
theorem cawake_any (w : World) : Calls Tryd.prog 11 #[] w fun e w' => e = .returned (.bool true) ∧ Below w.heap.size w w' := by
  have mixed : Tryd.prog.follows .mixedOrders = true := by kernel_rfl
  go_enter Tryd.func11, Tryd.ntmps11
  go_wp2_with fail
  refine (made_any w).mono ?_
  rintro e w1 ⟨Aa, ca, Ab, cb, rfl, hc1, hb1⟩
  unfold castV
  obtain ⟨W1, hW1⟩ : ∃ W1, W1 = w1.alloc (.cells #[.slice Aa [sA, sB, sI].length ca, .slice Ab [sI].length cb] 24) := ⟨_, rfl⟩
  have hf1 : AwF w W1 Aa ca Ab cb w1.heap.size := ⟨by rw [hW1]; exact heap_alloc_new _ _, hc1.below (by rw [hW1]; exact below1 (Nat.le_refl _) _), by rw [hW1]; exact hb1.alloc hb1.size _⟩
  have HF1 := Lib.hid hf1
  simp only [List.length_cons, List.length_nil, Nat.zero_add, Nat.reduceAdd] at hW1 ⊢
  have HI := Lib.hid (cinit_any exC [sI] Aa Ab ca cb W1 hf1.cast)
  rw [ex_valid] at HI
  obtain ⟨c0, c1, -⟩ := boxC_cells hf1.box
  simp only [castV, exC, List.length_cons, List.length_nil, Nat.zero_add, Nat.reduceAdd] at HI c0 c1
  rw [hW1] at c0 c1
  have HW1 := Lib.hid hW1
  clear hf1 hc1 hb1 hW1
  go_wp2_with fail
  rw [← HW1.out]
  obtain ⟨B, hB⟩ : ∃ B, B = w1.heap.size := ⟨_, rfl⟩
  rw [← hB] at HF1 ⊢
  clear hB c0 c1 HW1
  refine HI.out.mono ?_; clear HI
  rintro e w2 hT
  obtain ⟨v2, its2, rfl, hr2, hi2, hb2⟩ := hT
  obtain ⟨A2, c2, rfl, -⟩ := hr2.toS (P := fun _ => True) (fun _ _ _ => trivial) (fun _ _ _ => trivial)
  have hl2 : its2.length = 8 := by have := congrArg List.length hi2; rw [List.length_map] at this; exact this.trans ex_init
  rw [hl2]
  have HF2 := Lib.hid (HF1.out.go hb2)
  clear hr2 hi2 hb2 hl2 HF1
  have HS1 := Lib.hid (csess_any exC [sI] Aa Ab ca cb 2 1 w2 HF2.out.cast)
  rw [ex_s1.1] at HS1
  obtain ⟨c0, c1, -⟩ := boxC_cells HF2.out.box
  simp only [castV, exC, List.length_cons, List.length_nil, Nat.zero_add, Nat.reduceAdd] at HS1 c0 c1
  go_wp2_with fail
  refine HS1.out.mono ?_; clear HS1 c0 c1
  rintro e w3 ⟨A3, c3, rfl, -, hb3⟩
  rw [show (sessLs [sA, sB, sI] [sI] 2 1).length = 8 from ex_s1.2]
  have HF3 := Lib.hid (HF2.out.go hb3)
  clear hb3 HF2
  have HS2 := Lib.hid (csess_any exC [sI] Aa Ab ca cb 2 2 w3 HF3.out.cast)
  rw [ex_s2.1] at HS2
  obtain ⟨c0, c1, -⟩ := boxC_cells HF3.out.box
  simp only [castV, exC, List.length_cons, List.length_nil, Nat.zero_add, Nat.reduceAdd] at HS2 c0 c1
  go_wp2_with fail
  refine HS2.out.mono ?_; clear HS2 c0 c1
  rintro e w4 ⟨A4, c4, rfl, -, hb4⟩
  rw [show (sessLs [sA, sB, sI] [sI] 2 2).length = 36 from ex_s2.2]
  have HF4 := Lib.hid (HF3.out.go hb4)
  clear hb4 HF3
  go_wp2_with fail
  have HB4 := Lib.hid HF4.out.below
  clear HF4
  refine (atom_any ⟨#[110, 97]⟩ 2 w4).mono ?_
  rintro e a1 ⟨rfl, hl1⟩
  have HA1 := Lib.hid (HB4.out.trans (hl1.below.mono HB4.out.size))
  simp only [Tm.val, Tm.kind, Tm.name, Tm.sort, Tm.kids, List.length_nil]
  clear hl1 HB4
  go_wp2_with fail
  refine (ragent_any sA a1).mono ?_
  rintro e b1 ⟨rfl, hl1⟩
  have HB1 := Lib.hid (HA1.out.trans (hl1.below.mono HA1.out.size))
  clear hl1 HA1
  go_wp2_with fail
  obtain ⟨Z1, hZ1⟩ : ∃ Z, Z = b1.alloc (.cells #[.int .i64 2, .string ⟨#[110, 97]⟩, .int .i64 2, .slice none 0 0, .int .i64 2, .string sA, .int .i64 1, .slice none 0 0] 35) := ⟨_, rfl⟩
  have HZ1 := Lib.hid (show Below w.heap.size w Z1 by rw [hZ1]; exact HB1.out.alloc HB1.out.size _)
  have hrs1 := two_leaves (by decide) (by decide) hZ1
  have HAP1 := Lib.hid (rapp_any ⟨#[112, 97, 105, 114]⟩ [.mk 2 ⟨#[110, 97]⟩ 2 [], .mk 2 sA 1 []] _ 2 Z1 _ (fun b h => h) (by decide) (by simp) (by simp) hrs1)
  simp only [List.length_cons, List.length_nil, Nat.zero_add, Nat.reduceAdd] at HAP1
  rw [← hZ1]
  clear hZ1 hrs1 HB1
  refine HAP1.out.mono ?_; clear HAP1
  rintro e d1 ⟨T1, t1, rfl, hr1, hk1⟩
  obtain ⟨V1, hV1⟩ : ∃ V, V = d1.alloc (boxOf exT T1 t1) := ⟨_, rfl⟩
  have hbx1 : BoxT V1 d1.heap.size exT T1 t1 := by
    rw [hV1]; exact BoxT.new (RepP.mono (fun b h => by rcases h with h | h; exact Nat.lt_of_lt_of_le h hk1.size; exact h.2) (fun _ _ => rfl) _ _ _ hr1)
  have hbv1 : Below w.heap.size w V1 := by rw [hV1]; exact (HZ1.out.trans (hk1.mono HZ1.out.size)).alloc (Nat.le_trans HZ1.out.size hk1.size) _
  have HV1 := Lib.hid hbv1
  have HX1 := Lib.hid hbx1
  simp only [boxOf, exT, Tm.kind, Tm.name, Tm.sort, Tm.kids, List.length_cons, List.length_nil, Nat.zero_add, Nat.reduceAdd] at hV1
  have HVE1 := Lib.hid hV1
  clear hr1 hk1 hV1 hbx1 hbv1 HZ1
  simp only [Tm.val, Tm.kind, Tm.name, Tm.sort, Tm.kids, List.length_cons, List.length_nil, Nat.zero_add, Nat.reduceAdd]
  go_wp2_with fail
  rw [← HVE1.out]
  obtain ⟨B1, hB1⟩ : ∃ B1, B1 = d1.heap.size := ⟨_, rfl⟩
  rw [← hB1] at HX1 ⊢
  clear hB1 HVE1
  have HR0 := Lib.hid (Below.refl V1.heap.size V1)
  refine (atom_any ⟨#[110, 97, 35, 50]⟩ 2 V1).mono ?_
  rintro e a2 ⟨rfl, hl2⟩
  have HA2 := Lib.hid (HR0.out.trans (hl2.below.mono HR0.out.size))
  simp only [Tm.val, Tm.kind, Tm.name, Tm.sort, Tm.kids, List.length_nil]
  clear hl2
  go_wp2_with fail
  refine (ragent_any sA a2).mono ?_
  rintro e b2 ⟨rfl, hl2⟩
  have HB2 := Lib.hid (HA2.out.trans (hl2.below.mono HA2.out.size))
  clear hl2 HA2
  go_wp2_with fail
  obtain ⟨Z2, hZ2⟩ : ∃ Z, Z = b2.alloc (.cells #[.int .i64 2, .string ⟨#[110, 97, 35, 50]⟩, .int .i64 2, .slice none 0 0, .int .i64 2, .string sA, .int .i64 1, .slice none 0 0] 35) := ⟨_, rfl⟩
  have HZ2 := Lib.hid (show Below V1.heap.size V1 Z2 by rw [hZ2]; exact HB2.out.alloc HB2.out.size _)
  have hrs2 := two_leaves (by decide) (by decide) hZ2
  have HAP2 := Lib.hid (rapp_any ⟨#[112, 97, 105, 114]⟩ [.mk 2 ⟨#[110, 97, 35, 50]⟩ 2 [], .mk 2 sA 1 []] _ 2 Z2 _ (fun b h => h) (by decide) (by simp) (by simp) hrs2)
  simp only [List.length_cons, List.length_nil, Nat.zero_add, Nat.reduceAdd] at HAP2
  rw [← hZ2]
  clear hZ2 hrs2 HB2
  refine HAP2.out.mono ?_; clear HAP2
  rintro e d2 ⟨T2, t2, rfl, hr2, hk2⟩
  obtain ⟨V2, hV2⟩ : ∃ V, V = d2.alloc (boxOf exU T2 t2) := ⟨_, rfl⟩
  have hbx2 : BoxT V2 d2.heap.size exU T2 t2 := by
    rw [hV2]; exact BoxT.new (RepP.mono (fun b h => by rcases h with h | h; exact Nat.lt_of_lt_of_le h hk2.size; exact h.2) (fun _ _ => rfl) _ _ _ hr2)
  have hbv2 : Below V1.heap.size V1 V2 := by rw [hV2]; exact (HZ2.out.trans (hk2.mono HZ2.out.size)).alloc (Nat.le_trans HZ2.out.size hk2.size) _
  have hx12 : BoxT V2 B1 exT T1 t1 := by
    exact HX1.out.below hbv2
  have hx2 : BoxT V2 d2.heap.size exU T2 t2 := hbx2
  have HVV := Lib.hid (HV1.out.trans (hbv2.mono HV1.out.size))
  simp only [boxOf, exU, Tm.kind, Tm.name, Tm.sort, Tm.kids, List.length_cons, List.length_nil, Nat.zero_add, Nat.reduceAdd] at hV2
  have HVE2 := Lib.hid hV2
  have HX1 := Lib.hid hx12; have HX2 := Lib.hid hx2
  clear hr2 hk2 hV2 hbx2 hbv2 HZ2 HV1 HR0 hx12 hx2
  simp only [Tm.val, Tm.kind, Tm.name, Tm.sort, Tm.kids, List.length_cons, List.length_nil, Nat.zero_add, Nat.reduceAdd]
  go_wp2_with fail
  rw [← HVE2.out]
  obtain ⟨B2, hB2⟩ : ∃ B2, B2 = d2.heap.size := ⟨_, rfl⟩
  rw [← hB2] at HX2 ⊢
  clear hB2 HVE2
  refine wp_region_mix4 (fun _ => True) (fun Y => Below V2.drew.heap.size V2.drew Y) [] (.held 0 (.held 1 (.held 2 (.held 3 (.held 4 (.held 5 (.held 6 (.held 7 (.held 8 (.held 9 (.held 10 (.held 11 (.held 12 (.held 13 (.held 14 (.held 15 (.held 16 (.held 17 (.held 18 (.held 19 (.held 20 (.held 21 (.held 22 (.held 23 (.held 24 (.held 25 (.held 26 (.held 28 (.op 27 (.op 29 (.held 30 (.held 31 .nil)))))))))))))))))))))))))))))))) mixed (by kernel_rfl) ?_
  have HX1' := Lib.hid (HX1.out.below (Below.refl V2.heap.size V2).drew)
  have HX2' := Lib.hid (HX2.out.below (Below.refl V2.heap.size V2).drew)
  have HVD := Lib.hid (HVV.out.trans ((Below.refl V2.heap.size V2).drew.mono HVV.out.size))
  clear HX1 HX2 HVV
  generalize V2.drew = D at *
  refine mix4_take (v := .int .i64 0) rfl rfl rfl (fun _ _ _ h => h) trivial (Below.refl _ _) (fun Y _ hY => by
    (try simp only [Act.put]); go_simp) ?_
  refine mix4_take (v := .bool true) rfl rfl rfl (fun _ _ _ h => h) trivial (Below.refl _ _) (fun Y _ hY => by
    (try simp only [Act.put]); go_simp) ?_
  refine mix4_take (v := .bool true) rfl rfl rfl (fun _ _ _ h => h) trivial (Below.refl _ _) (fun Y _ hY => by
    (try simp only [Act.put]); go_simp) ?_
  refine mix5_take_g (v := .slice A2 8 c2) rfl (by kernel_rfl) rfl (fun _ _ _ h => h) trivial (Below.refl _ _) (fun Y _ hY => by
    (try simp only [Act.put]); go_simp) ?_
  (try simp only [Act.put, List.setIfInBounds_toArray, List.set_cons_succ, List.set_cons_zero, List.getElem_toArray, List.getElem_cons_succ, List.getElem_cons_zero])
  refine mix5_take_g (v := .int .i64 8) rfl (by kernel_rfl) rfl (fun _ _ _ h => h) trivial (Below.refl _ _) (fun Y _ hY => by
    (try simp only [Act.put]); go_simp) ?_
  (try simp only [Act.put, List.setIfInBounds_toArray, List.set_cons_succ, List.set_cons_zero, List.getElem_toArray, List.getElem_cons_succ, List.getElem_cons_zero])
  refine mix5_take_g (v := .bool true) rfl (by kernel_rfl) rfl (fun _ _ _ h => h) trivial (Below.refl _ _) (fun Y _ hY => by
    (try simp only [Act.put]); go_simp) ?_
  (try simp only [Act.put, List.setIfInBounds_toArray, List.set_cons_succ, List.set_cons_zero, List.getElem_toArray, List.getElem_cons_succ, List.getElem_cons_zero])
  refine mix4_take (v := .bool true) rfl rfl rfl (fun _ _ _ h => h) trivial (Below.refl _ _) (fun Y _ hY => by
    (try simp only [Act.put]); go_simp) ?_
  refine mix4_take (v := .bool true) rfl rfl rfl (fun _ _ _ h => h) trivial (Below.refl _ _) (fun Y _ hY => by
    (try simp only [Act.put]); go_simp) ?_
  (try simp only [Act.put, List.setIfInBounds_toArray, List.set_cons_succ, List.set_cons_zero, List.getElem_toArray, List.getElem_cons_succ, List.getElem_cons_zero])
  refine mix5_take_g (v := .int .i64 0) rfl (by kernel_rfl) rfl (fun _ _ _ h => h) trivial (Below.refl _ _) (fun Y _ hY => by
    (try simp only [Act.put]); go_simp) ?_
  (try simp only [Act.put, List.setIfInBounds_toArray, List.set_cons_succ, List.set_cons_zero, List.getElem_toArray, List.getElem_cons_succ, List.getElem_cons_zero])
  refine mix5_take_g (v := .bool true) rfl (by kernel_rfl) rfl (fun _ _ _ h => h) trivial (Below.refl _ _) (fun Y _ hY => by
    (try simp only [Act.put]); go_simp) ?_
  (try simp only [Act.put, List.setIfInBounds_toArray, List.set_cons_succ, List.set_cons_zero, List.getElem_toArray, List.getElem_cons_succ, List.getElem_cons_zero])
  refine mix4_take (v := .bool true) rfl rfl rfl (fun _ _ _ h => h) trivial (Below.refl _ _) (fun Y _ hY => by
    (try simp only [Act.put]); go_simp) ?_
  refine mix4_take (v := .bool true) rfl rfl rfl (fun _ _ _ h => h) trivial (Below.refl _ _) (fun Y _ hY => by
    (try simp only [Act.put]); go_simp) ?_
  (try simp only [Act.put, List.setIfInBounds_toArray, List.set_cons_succ, List.set_cons_zero, List.getElem_toArray, List.getElem_cons_succ, List.getElem_cons_zero])
  refine mix5_take_g (v := .slice A3 8 c3) rfl (by kernel_rfl) rfl (fun _ _ _ h => h) trivial (Below.refl _ _) (fun Y _ hY => by
    (try simp only [Act.put]); go_simp) ?_
  (try simp only [Act.put, List.setIfInBounds_toArray, List.set_cons_succ, List.set_cons_zero, List.getElem_toArray, List.getElem_cons_succ, List.getElem_cons_zero])
  refine mix5_take_g (v := .int .i64 8) rfl (by kernel_rfl) rfl (fun _ _ _ h => h) trivial (Below.refl _ _) (fun Y _ hY => by
    (try simp only [Act.put]); go_simp) ?_
  (try simp only [Act.put, List.setIfInBounds_toArray, List.set_cons_succ, List.set_cons_zero, List.getElem_toArray, List.getElem_cons_succ, List.getElem_cons_zero])
  refine mix5_take_g (v := .bool true) rfl (by kernel_rfl) rfl (fun _ _ _ h => h) trivial (Below.refl _ _) (fun Y _ hY => by
    (try simp only [Act.put]); go_simp) ?_
  (try simp only [Act.put, List.setIfInBounds_toArray, List.set_cons_succ, List.set_cons_zero, List.getElem_toArray, List.getElem_cons_succ, List.getElem_cons_zero])
  refine mix4_take (v := .bool true) rfl rfl rfl (fun _ _ _ h => h) trivial (Below.refl _ _) (fun Y _ hY => by
    (try simp only [Act.put]); go_simp) ?_
  (try simp only [Act.put, List.setIfInBounds_toArray, List.set_cons_succ, List.set_cons_zero, List.getElem_toArray, List.getElem_cons_succ, List.getElem_cons_zero])
  refine mix4_take (v := .bool true) rfl rfl rfl (fun _ _ _ h => h) trivial (Below.refl _ _) (fun Y _ hY => by
    (try simp only [Act.put]); go_simp) ?_
  refine mix5_take_g (v := .int .i64 0) rfl (by kernel_rfl) rfl (fun _ _ _ h => h) trivial (Below.refl _ _) (fun Y _ hY => by
    (try simp only [Act.put]); go_simp) ?_
  (try simp only [Act.put, List.setIfInBounds_toArray, List.set_cons_succ, List.set_cons_zero, List.getElem_toArray, List.getElem_cons_succ, List.getElem_cons_zero])
  refine mix5_take_g (v := .bool true) rfl (by kernel_rfl) rfl (fun _ _ _ h => h) trivial (Below.refl _ _) (fun Y _ hY => by
    (try simp only [Act.put]); go_simp) ?_
  (try simp only [Act.put, List.setIfInBounds_toArray, List.set_cons_succ, List.set_cons_zero, List.getElem_toArray, List.getElem_cons_succ, List.getElem_cons_zero])
  refine mix4_take (v := .bool true) rfl rfl rfl (fun _ _ _ h => h) trivial (Below.refl _ _) (fun Y _ hY => by
    (try simp only [Act.put]); go_simp) ?_
  (try simp only [Act.put, List.setIfInBounds_toArray, List.set_cons_succ, List.set_cons_zero, List.getElem_toArray, List.getElem_cons_succ, List.getElem_cons_zero])
  refine mix4_take (v := .bool true) rfl rfl rfl (fun _ _ _ h => h) trivial (Below.refl _ _) (fun Y _ hY => by
    (try simp only [Act.put]); go_simp) ?_
  refine mix5_take_g (v := .slice A4 36 c4) rfl (by kernel_rfl) rfl (fun _ _ _ h => h) trivial (Below.refl _ _) (fun Y _ hY => by
    (try simp only [Act.put]); go_simp) ?_
  (try simp only [Act.put, List.setIfInBounds_toArray, List.set_cons_succ, List.set_cons_zero, List.getElem_toArray, List.getElem_cons_succ, List.getElem_cons_zero])
  refine mix5_take_g (v := .int .i64 36) rfl (by kernel_rfl) rfl (fun _ _ _ h => h) trivial (Below.refl _ _) (fun Y _ hY => by
    (try simp only [Act.put]); go_simp) ?_
  (try simp only [Act.put, List.setIfInBounds_toArray, List.set_cons_succ, List.set_cons_zero, List.getElem_toArray, List.getElem_cons_succ, List.getElem_cons_zero])
  refine mix5_take_g (v := .bool true) rfl (by kernel_rfl) rfl (fun _ _ _ h => h) trivial (Below.refl _ _) (fun Y _ hY => by
    (try simp only [Act.put]); go_simp) ?_
  (try simp only [Act.put, List.setIfInBounds_toArray, List.set_cons_succ, List.set_cons_zero, List.getElem_toArray, List.getElem_cons_succ, List.getElem_cons_zero])
  refine mix4_take (v := .bool true) rfl rfl rfl (fun _ _ _ h => h) trivial (Below.refl _ _) (fun Y _ hY => by
    (try simp only [Act.put]); go_simp) ?_
  refine mix4_take (v := .bool true) rfl rfl rfl (fun _ _ _ h => h) trivial (Below.refl _ _) (fun Y _ hY => by
    (try simp only [Act.put]); go_simp) ?_
  (try simp only [Act.put, List.setIfInBounds_toArray, List.set_cons_succ, List.set_cons_zero, List.getElem_toArray, List.getElem_cons_succ, List.getElem_cons_zero])
  refine mix5_take_g (v := .agg #[.int .i64 3, .string ⟨#[112, 97, 105, 114]⟩, .int .i64 0, .slice T1 2 t1]) rfl (by kernel_rfl) rfl (fun _ _ _ h => h) trivial (Below.refl _ _) (fun Y _ hY => by
    obtain ⟨z0, z1, z2, z3, -⟩ := box_at (show Y.heap[B1]? = some (.cells #[.int .i64 3, .string ⟨#[112, 97, 105, 114]⟩, .int .i64 0, .slice T1 2 t1] 35 (0, 0)) from (HX1'.out.below hY).1)
    clear hY
    (try simp only [Act.put]); go_simp) ?_
  (try simp only [Act.put, List.setIfInBounds_toArray, List.set_cons_succ, List.set_cons_zero, List.getElem_toArray, List.getElem_cons_succ, List.getElem_cons_zero])
  refine mix5_take_g (v := .agg #[.int .i64 3, .string ⟨#[112, 97, 105, 114]⟩, .int .i64 0, .slice T2 2 t2]) rfl (by kernel_rfl) rfl (fun _ _ _ h => h) trivial (Below.refl _ _) (fun Y _ hY => by
    obtain ⟨z0, z1, z2, z3, -⟩ := box_at (show Y.heap[B2]? = some (.cells #[.int .i64 3, .string ⟨#[112, 97, 105, 114]⟩, .int .i64 0, .slice T2 2 t2] 35 (0, 0)) from (HX2'.out.below hY).1)
    clear hY
    (try simp only [Act.put]); go_simp) ?_
  (try simp only [Act.put, List.setIfInBounds_toArray, List.set_cons_succ, List.set_cons_zero, List.getElem_toArray, List.getElem_cons_succ, List.getElem_cons_zero])
  refine mix4_op_g rfl (by kernel_rfl) (fun K hK => ?_)
  have HIN := Lib.hid (instance_any exT T1 t1 2 D (by decide) ex_check HX1'.out.2)
  rw [ex_inst] at HIN
  simp only [Tm.val, exT, Tm.kind, Tm.name, Tm.sort, Tm.kids, List.length_cons, List.length_nil, Nat.zero_add, Nat.reduceAdd] at HIN
  go_wp2_with fail
  refine HIN.out.mono ?_; clear HIN
  rintro e x5 ⟨T5, t5, rfl, hr5, hb5⟩
  have HB5 := Lib.hid hb5; have HR5 := Lib.hid hr5
  refine hK _ _ ⟨⟨fun _ => trivial, hb5⟩, ?_⟩
  clear hK K hb5 hr5
  simp only [exU, Tm.kind, Tm.name, Tm.sort, Tm.kids, List.length_cons, List.length_nil, Nat.zero_add, Nat.reduceAdd]
  (try simp only [Act.put, List.setIfInBounds_toArray, List.set_cons_succ, List.set_cons_zero, List.getElem_toArray, List.getElem_cons_succ, List.getElem_cons_zero])
  refine mix4_op_g rfl (by kernel_rfl) (fun K hK => ?_)
  have HSM := Lib.hid (rsame_any exU exU T5 T2 t5 t2 x5 (by decide) (by decide) HR5.out (HX2'.out.below HB5.out).2)
  rw [Tm.same_iff.2 rfl] at HSM
  simp only [Tm.val, exU, Tm.kind, Tm.name, Tm.sort, Tm.kids, List.length_cons, List.length_nil, Nat.zero_add, Nat.reduceAdd] at HSM
  go_wp2_with fail
  refine HSM.out.mono ?_; clear HSM
  rintro e x6 ⟨rfl, hl6⟩
  have HB6 := Lib.hid (HB5.out.trans (hl6.below.mono HB5.out.size))
  refine hK _ _ ⟨⟨fun _ => trivial, HB6.out⟩, ?_⟩
  clear hK K hl6
  (try simp only [Act.put, List.setIfInBounds_toArray, List.set_cons_succ, List.set_cons_zero, List.getElem_toArray, List.getElem_cons_succ, List.getElem_cons_zero])
  refine mix4_take (v := .bool true) rfl rfl rfl (fun _ _ _ h => h) trivial HB6.out (fun Y _ hY => by
    (try simp only [Act.put]); go_simp) ?_
  (try simp only [Act.put, List.setIfInBounds_toArray, List.set_cons_succ, List.set_cons_zero, List.getElem_toArray, List.getElem_cons_succ, List.getElem_cons_zero])
  refine mix4_take (v := .bool true) rfl rfl rfl (fun _ _ _ h => h) trivial HB6.out (fun Y _ hY => by
    (try simp only [Act.put]); go_simp) ?_
  (try simp only [Act.put, List.setIfInBounds_toArray, List.set_cons_succ, List.set_cons_zero, List.getElem_toArray, List.getElem_cons_succ, List.getElem_cons_zero])
  refine mix4_nil ?_
  go_wp2_with fail
  go_ret
  exact ⟨rfl, HVD.out.trans (HB6.out.mono HVD.out.size)⟩
end Go.Proofs.YtpjmdilpldaapaaDoor
