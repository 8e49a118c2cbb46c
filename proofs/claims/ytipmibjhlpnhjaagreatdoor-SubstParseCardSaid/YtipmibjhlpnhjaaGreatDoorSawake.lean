/- The examples that every law of the layer checks first. -/
import Derived.Test.YtipmibjhlpnhjaaGreatDoorSlaid
import Derived.Test.YtipmibjhlpnhjaaGreatDoorGh
namespace Go.Proofs.YtipmibjhlpnhjaaGreatDoor
open Go.RowKit Go.Sort

/-- what stands in the world behind region 3 -/
structure AW (w : World) (B1 B2 B5 : Nat) (V : World) : Prop where
  a : BoxT V B1 sA none 0
  b : BoxT V (B1 + 1) sB none 0
  x : BoxT V B2 sX none 0
  y : BoxT V (B2 + 1) sY none 0
  s : RepB V (fun b => b < V.heap.size) [(sX, sF)] (some ⟨B5, 0, none⟩) 1
  bw : Below w.heap.size w V
theorem AW.below {w V V' : World} {B1 B2 B5 : Nat} (h : AW w B1 B2 B5 V) (hb : Below V.heap.size V V') : AW w B1 B2 B5 V' :=
  ⟨h.a.below hb, h.b.below hb, h.x.below hb, h.y.below hb, h.s.go hb hb.size, below_then h.bw hb h.bw.size⟩

set_option maxHeartbeats 1200000 in
set_option maxRecDepth 100000 in
theorem sawake_any (w : World) (hw : Words w.heap.size w) :
    Calls Tryz.prog 29 #[] w fun e w' => e = .returned (.bool true) ∧ Below w.heap.size w w' := by
  have mixed : Tryz.prog.follows .mixedOrders = true := by kernel_rfl
  have HW := Lib.hid hw; clear hw
  go_enter Tryz.func29, Tryz.ntmps29
  go_wp2_with fail
  refine (atom_any ⟨#[97]⟩ 0 w).mono ?_
  rintro e w1 ⟨rfl, hl1⟩
  have HL1 := Lib.hid hl1.below; clear hl1
  simp only [Tm.val, Tm.kind, Tm.name, Tm.sort, Tm.kids, List.length_nil]
  go_wp2_with fail
  refine (atom_any ⟨#[98]⟩ 0 w1).mono ?_
  rintro e w2 ⟨rfl, hl2⟩
  have HL2 := Lib.hid hl2.below; clear hl2
  simp only [Tm.val, Tm.kind, Tm.name, Tm.sort, Tm.kids, List.length_nil]
  go_wp2_with fail
  have nilRep : ∀ (V : World) (B : Nat) (k s : Int) (n : ByteArray), n.size ≤ maxLen → RepT V B (.mk k n s []) none 0 := fun V B k s n h => by
    rw [RepT_mk]; exact ⟨h, Nat.zero_le _, Nat.zero_le _, .inl rfl⟩
  obtain ⟨B1, hB1⟩ : ∃ B, B = w2.heap.size := ⟨_, rfl⟩
  obtain ⟨Va, hVa⟩ : ∃ V, V = w2.alloc (boxOf sA none 0) := ⟨_, rfl⟩
  obtain ⟨Vb, hVb⟩ : ∃ V, V = Va.alloc (boxOf sB none 0) := ⟨_, rfl⟩
  have hsa : Va.heap.size = B1 + 1 := by rw [hVa, hB1]; simp
  have hsb : Vb.heap.size = B1 + 2 := by rw [hVb]; simp [hsa]
  have hXa : BoxT Va B1 sA none 0 := by rw [hVa, hB1]; exact BoxT.new (nilRep _ _ _ _ _ (by decide))
  have hXb : BoxT Vb (B1 + 1) sB none 0 := by rw [hVb, ← hsa]; exact BoxT.new (nilRep _ _ _ _ _ (by decide))
  have hba : Below Va.heap.size Va Vb := by rw [hVb]; exact below1 (Nat.le_refl _) _
  have hXa2 : BoxT Vb B1 sA none 0 := hXa.below hba
  have h2b : Below w2.heap.size w2 Vb := below_then (by rw [hVa]; exact below1 (Nat.le_refl _) _) hba (by omega)
  have hwb : Below w.heap.size w Vb := below_then (below_then HL1.out HL2.out HL1.out.size) h2b (by have := HL1.out.size; have := HL2.out.size; omega)
  have hV := hVb
  rw [hVa] at hV
  simp only [boxOf, sA, sB, Tm.kind, Tm.name, Tm.sort, Tm.kids, List.length_nil] at hV
  have HV := Lib.hid hV; clear hV hVb hVa hXa hba h2b HL1 HL2
  rw [← hB1, ← HV.out]
  have HB1 := Lib.hid hB1; clear hB1
  have HXa := Lib.hid hXa2; clear hXa2
  have HXb := Lib.hid hXb; clear hXb
  have HWB := Lib.hid hwb; clear hwb
  have HSB := Lib.hid hsb; clear hsb hsa
  refine (var_any ⟨#[120]⟩ 0 Vb).mono ?_; clear HV
  rintro e w3 ⟨rfl, hl3⟩
  have HL3 := Lib.hid hl3.below; clear hl3
  simp only [Tm.val, Tm.kind, Tm.name, Tm.sort, Tm.kids, List.length_nil]
  go_wp2_with fail
  refine (var_any ⟨#[121]⟩ 0 w3).mono ?_
  rintro e w4 ⟨rfl, hl4⟩
  have HL4 := Lib.hid hl4.below; clear hl4
  simp only [Tm.val, Tm.kind, Tm.name, Tm.sort, Tm.kids, List.length_nil]
  go_wp2_with fail
  obtain ⟨B2, hB2⟩ : ∃ B, B = w4.heap.size := ⟨_, rfl⟩
  obtain ⟨Vx, hVx⟩ : ∃ V, V = w4.alloc (boxOf sX none 0) := ⟨_, rfl⟩
  obtain ⟨Vy, hVy⟩ : ∃ V, V = Vx.alloc (boxOf sY none 0) := ⟨_, rfl⟩
  have hsx : Vx.heap.size = B2 + 1 := by rw [hVx, hB2]; simp
  have hsy : Vy.heap.size = B2 + 2 := by rw [hVy]; simp [hsx]
  have hXx : BoxT Vx B2 sX none 0 := by rw [hVx, hB2]; exact BoxT.new (nilRep _ _ _ _ _ (by decide))
  have hXy : BoxT Vy (B2 + 1) sY none 0 := by rw [hVy, ← hsx]; exact BoxT.new (nilRep _ _ _ _ _ (by decide))
  have hxy : Below Vx.heap.size Vx Vy := by rw [hVy]; exact below1 (Nat.le_refl _) _
  have hXx2 : BoxT Vy B2 sX none 0 := hXx.below hxy
  have h4y : Below w4.heap.size w4 Vy := below_then (by rw [hVx]; exact below1 (Nat.le_refl _) _) hxy (by omega)
  have hby : Below Vb.heap.size Vb Vy := below_then (below_then HL3.out HL4.out HL3.out.size) h4y (by have := HL3.out.size; have := HL4.out.size; omega)
  have hXa3 := HXa.out.below hby
  have hXb3 := HXb.out.below hby
  have hwy : Below w.heap.size w Vy := below_then HWB.out hby HWB.out.size
  have hlt12 : B1 + 1 < B2 := by have := HL3.out.size; have := HL4.out.size; have := HSB.out; omega
  have hV := hVy
  rw [hVx] at hV
  simp only [boxOf, sX, sY, Tm.kind, Tm.name, Tm.sort, Tm.kids, List.length_nil] at hV
  have HV := Lib.hid hV; clear hV hVx hVy hXx hxy h4y hby HL3 HL4 HXa HXb HWB HSB
  rw [← hB2, ← HV.out]
  have HB2 := Lib.hid hB2; clear hB2
  refine wp_region_mix (fun Y => Below Vy.drew.heap.size Vy.drew Y) 7 (.held 0 (.held 1 (.held 2 (.op 3 (.op 4 (.op 5 (.op 6 (.op 7 .nil)))))))) mixed (by kernel_rfl) ?_
  have hd : Below Vy.heap.size Vy Vy.drew := (Below.refl _ _).drew
  have hyd : Below w.heap.size w Vy.drew := below_then hwy hd hwy.size
  have hXx3 := hXx2.below hd
  have hXy3 := hXy.below hd
  have hXa4 := hXa3.below hd
  have hXb4 := hXb3.below hd
  have hsd : Vy.drew.heap.size = B2 + 2 := hsy
  clear hd hwy hXx2 hXy hXa3 hXb3 hsy
  generalize Vy.drew = Z at *
  obtain ⟨x0, x1, x2, x3, -⟩ := box_at hXx3.1
  obtain ⟨y0, y1, y2, y3, -⟩ := box_at hXy3.1
  obtain ⟨c0, c1, c2, c3, -⟩ := box_at hXa4.1
  simp only [sX, sY, sA, Tm.kind, Tm.name, Tm.sort, Tm.kids, List.length_nil] at x0 x1 x2 x3 y0 y1 y2 y3 c0 c1 c2 c3
  refine mix_take (v := .agg #[.int .i64 1, .string ⟨#[120]⟩, .int .i64 0, .slice none 0 0]) rfl rfl (fun _ _ _ h => h) (Below.refl _ _) (fun Y hY => by
    have z0 := (hY.cell (p := ⟨B2, 0, none⟩) (by show B2 < _; omega)).trans x0
    have z1 := (hY.cell (p := ⟨B2, 1, none⟩) (by show B2 < _; omega)).trans x1
    have z2 := (hY.cell (p := ⟨B2, 2, none⟩) (by show B2 < _; omega)).trans x2
    have z3 := (hY.cell (p := ⟨B2, 3, none⟩) (by show B2 < _; omega)).trans x3
    (try simp only [Act.put]); go_simp) ?_
  refine mix_take (v := .agg #[.int .i64 1, .string ⟨#[121]⟩, .int .i64 0, .slice none 0 0]) rfl rfl (fun _ _ _ h => h) (Below.refl _ _) (fun Y hY => by
    have z0 := (hY.cell (p := ⟨B2 + 1, 0, none⟩) (by show B2 + 1 < _; omega)).trans y0
    have z1 := (hY.cell (p := ⟨B2 + 1, 1, none⟩) (by show B2 + 1 < _; omega)).trans y1
    have z2 := (hY.cell (p := ⟨B2 + 1, 2, none⟩) (by show B2 + 1 < _; omega)).trans y2
    have z3 := (hY.cell (p := ⟨B2 + 1, 3, none⟩) (by show B2 + 1 < _; omega)).trans y3
    (try simp only [Act.put]); go_simp) ?_
  refine mix_take (v := .agg #[.int .i64 2, .string ⟨#[97]⟩, .int .i64 0, .slice none 0 0]) rfl rfl (fun _ _ _ h => h) (Below.refl _ _) (fun Y hY => by
    have z0 := (hY.cell (p := ⟨B1, 0, none⟩) (by show B1 < _; omega)).trans c0
    have z1 := (hY.cell (p := ⟨B1, 1, none⟩) (by show B1 < _; omega)).trans c1
    have z2 := (hY.cell (p := ⟨B1, 2, none⟩) (by show B1 < _; omega)).trans c2
    have z3 := (hY.cell (p := ⟨B1, 3, none⟩) (by show B1 < _; omega)).trans c3
    (try simp only [Act.put]); go_simp) ?_
  clear x0 x1 x2 x3 y0 y1 y2 y3 c0 c1 c2 c3
  simp only [Act.put, List.setIfInBounds_toArray]
  refine mix_op rfl rfl (fun K hK => ?_)
  go_wp2_with fail
  refine ⟨fun _ => below1 (Nat.le_refl _) _, ?_⟩
  obtain ⟨Z1, hZ1⟩ : ∃ V, V = Z.alloc (.cells (itCells [(sY, none, 0), (sA, none, 0)]).toArray 24) := ⟨_, rfl⟩
  have hZb : Below Z.heap.size Z Z1 := by rw [hZ1]; exact below1 (Nat.le_refl _) _
  have hZs : Z1.heap.size = Z.heap.size + 1 := by rw [hZ1]; simp
  have hS3 : RepS Z1 (fun b => b < Z1.heap.size) [sY, sA] (some ⟨Z.heap.size, 0, none⟩) 2 :=
    repS_cells [(sY, none, 0), (sA, none, 0)] (by rw [hZ1]; exact heap_alloc_new _ _) (by omega)
      (fun x hx => by simp at hx; rcases hx with rfl | rfl <;> exact nilRep _ _ _ _ _ (by decide)) (by simp)
  simp only [sY, sA, Tm.kind, Tm.name, Tm.sort, Tm.kids, itCells, Tm.cells, List.length_nil, List.cons_append, List.nil_append] at hZ1
  try rw [← hsd]
  rw [← hZ1]
  refine mix_op rfl rfl (fun K hK => ?_)
  go_wp2_with fail
  have hAP := app_any ⟨#[102]⟩ [sY, sA] (some ⟨Z.heap.size, 0, none⟩) 2 Z1 (by decide) (by simp) (by simp) hS3
  rw [hsd, hZ1] at hAP
  refine hAP.mono ?_; clear hAP
  rintro e w5 ⟨A5, c5, rfl, hr5, hb5⟩
  rw [← hZ1] at hb5
  refine hK _ _ ⟨fun _ => hZb.trans (hb5.mono (by omega)), ?_⟩
  clear hK K
  simp only [Tm.val, Tm.kind, Tm.name, Tm.sort, Tm.kids, List.length_cons, List.length_nil, Nat.zero_add, Nat.reduceAdd]
  refine mix_op rfl rfl (fun K hK => ?_)
  go_wp2_with fail
  refine ⟨fun _ => hZb.trans (hb5.mono (by omega)), ?_⟩
  refine mix_op rfl rfl (fun K hK => ?_)
  go_wp2_with fail
  refine ⟨fun _ => (hZb.trans (hb5.mono (by omega))).alloc (by have := hb5.size; omega) _, ?_⟩
  refine mix_op rfl rfl (fun K hK => ?_)
  go_wp2_with fail
  refine ⟨fun h => absurd h (by decide), ?_⟩
  refine mix_nil ?_
  obtain ⟨B5, hB5⟩ : ∃ B, B = w5.heap.size := ⟨_, rfl⟩
  obtain ⟨V6, hV6⟩ : ∃ V, V = w5.alloc (.cells (bCells [((sX, none, 0), (sF, A5, c5))]).toArray 53) := ⟨_, rfl⟩
  have hb6 : Below w5.heap.size w5 V6 := by rw [hV6]; exact below1 (Nat.le_refl _) _
  have hs6 : V6.heap.size = w5.heap.size + 1 := by rw [hV6]; simp
  have hZ5 : Below Z.heap.size Z w5 := hZb.trans (hb5.mono (by omega))
  have hZ6 : Below Z.heap.size Z V6 := below_then hZ5 hb6 hZ5.size
  have hsB : RepB V6 (fun b => b < V6.heap.size) [(sX, sF)] (some ⟨B5, 0, none⟩) 1 :=
    repB_cells [((sX, none, 0), (sF, A5, c5))] (by rw [hV6, hB5]; exact heap_alloc_new _ _) (by omega)
      (fun x hx => by
        simp only [List.mem_cons, List.not_mem_nil, or_false] at hx; subst hx
        exact ⟨nilRep _ _ _ _ _ (by decide), RepP.mono (fun b h => by show b < V6.heap.size; omega) (fun p hp => hb6.cell hp) _ _ _ hr5⟩) (by simp)
  have AW6 := Lib.hid (⟨hXa4.below hZ6, hXb4.below hZ6, hXx3.below hZ6, hXy3.below hZ6, hsB, below_then hyd hZ6 hyd.size⟩ : AW w B1 B2 B5 V6)
  simp only [bCells, bits, itCells, Tm.cells, sX, sF, sY, sA, Tm.kind, Tm.name, Tm.sort, Tm.kids, List.length_cons, List.length_nil, List.cons_append, List.nil_append, Nat.zero_add, Nat.reduceAdd] at hV6
  rw [← hV6, ← hB5]
  have HB5 : Hid (V6.heap.size = B5 + 1) := by rw [hB5]; exact hs6
  clear hV6 hb6 hs6 hZ5 hZ6 hsB hXa4 hXb4 hXx3 hXy3 hZb hZs hZ1 hS3 hr5 hb5 hyd hsd hB5
  obtain ⟨x0, x1, x2, x3, -⟩ := box_at AW6.out.x.1
  simp only [sX, Tm.kind, Tm.name, Tm.sort, Tm.kids, List.length_nil] at x0 x1 x2 x3
  go_wp2_with fail
  clear x0 x1 x2 x3
  obtain ⟨V7, hV7⟩ : ∃ V, V = V6.alloc (.cells (itCells [(sX, none, 0)]).toArray 24) := ⟨_, rfl⟩
  have hb7 : Below V6.heap.size V6 V7 := by rw [hV7]; exact below1 (Nat.le_refl _) _
  have hs7 : V7.heap.size = V6.heap.size + 1 := by rw [hV7]; simp
  have hS7 : RepS V7 (fun b => b < V7.heap.size) [sX] (some ⟨V6.heap.size, 0, none⟩) 1 :=
    repS_cells [(sX, none, 0)] (by rw [hV7]; exact heap_alloc_new _ _) (by omega) (fun x hx => by simp at hx; subst hx; exact nilRep _ _ _ _ _ (by decide)) (by simp)
  have AW7 := Lib.hid (AW6.out.below hb7); clear AW6
  simp only [itCells, Tm.cells, sX, Tm.kind, Tm.name, Tm.sort, Tm.kids, List.length_nil, List.cons_append, List.nil_append] at hV7
  rw [← hV7]
  have hAP := app_any ⟨#[103]⟩ [sX] (some ⟨V6.heap.size, 0, none⟩) 1 V7 (by decide) (by simp) (by simp) hS7
  clear hV7 hb7 hs7 hS7
  refine hAP.mono ?_; clear hAP
  rintro e w6 ⟨A6, c6, rfl, hr6, hb6⟩
  have AW8 := Lib.hid (AW7.out.below hb6); clear AW7 hb6
  have hAY := sApply_any [(sX, sF)] (some ⟨B5, 0, none⟩) 1 (fun b hb => by simp at hb; subst hb; exact ⟨by decide, by decide⟩) sG A6 c6 w6 (by decide) AW8.out.s hr6
  rw [aw_apply] at hAY
  have HAY := Lib.hid hAY; clear hAY hr6
  simp only [Tm.val, sG, sX, Tm.kind, Tm.name, Tm.sort, Tm.kids, List.length_cons, List.length_nil, Nat.zero_add] at HAY ⊢
  go_wp2_with fail
  refine HAY.out.mono ?_; clear HAY
  rintro e w7 ⟨A7, c7, rfl, hr7, hb7⟩
  have AW9 := Lib.hid (AW8.out.below hb7); clear AW8
  simp only [Tm.val, sGF, sF, Tm.kind, Tm.name, Tm.sort, Tm.kids, List.length_cons, List.length_nil, Nat.zero_add]
  obtain ⟨B7, hB7⟩ : ∃ B, B = w7.heap.size := ⟨_, rfl⟩
  obtain ⟨V8, hV8⟩ : ∃ V, V = w7.alloc (boxOf sGF A7 c7) := ⟨_, rfl⟩
  have hb8 : Below w7.heap.size w7 V8 := by rw [hV8]; exact below1 (Nat.le_refl _) _
  have hX8 : BoxT V8 B7 sGF A7 c7 := by rw [hV8, hB7]; exact BoxT.new (RepP.mono (fun b h => h.2) (fun _ _ => rfl) _ _ _ hr7)
  have AW10 := Lib.hid (AW9.out.below hb8); clear AW9 hb7 hr7
  have HX8 := Lib.hid hX8; clear hX8 hb8
  simp only [boxOf, sGF, sF, Tm.kind, Tm.name, Tm.sort, Tm.kids, List.length_cons, List.length_nil, Nat.zero_add] at hV8
  obtain ⟨y0, y1, y2, y3, -⟩ := box_at AW10.out.y.1
  obtain ⟨b0, b1, b2, b3, -⟩ := box_at AW10.out.b.1
  simp only [sY, sB, Tm.kind, Tm.name, Tm.sort, Tm.kids, List.length_nil] at y0 y1 y2 y3 b0 b1 b2 b3
  rw [hV8] at y0 y1 y2 y3 b0 b1 b2 b3
  go_wp2_with fail
  clear y0 y1 y2 y3 b0 b1 b2 b3
  have hs8 : V8.heap.size = w7.heap.size + 1 := by rw [hV8]; simp
  obtain ⟨V9, hV9⟩ : ∃ V, V = V8.alloc (.cells (bCells [((sY, none, 0), (sB, none, 0))]).toArray 53) := ⟨_, rfl⟩
  have hb9 : Below V8.heap.size V8 V9 := by rw [hV9]; exact below1 (Nat.le_refl _) _
  have hs9 : V9.heap.size = V8.heap.size + 1 := by rw [hV9]; simp
  have hS9 : RepB V9 (fun b => b < V9.heap.size) [(sY, sB)] (some ⟨V8.heap.size, 0, none⟩) 1 :=
    repB_cells [((sY, none, 0), (sB, none, 0))] (by rw [hV9]; exact heap_alloc_new _ _) (by omega)
      (fun x hx => by
        simp only [List.mem_cons, List.not_mem_nil, or_false] at hx; subst hx
        exact ⟨nilRep _ _ _ _ _ (by decide), nilRep _ _ _ _ _ (by decide)⟩) (by simp)
  have AW11 := Lib.hid (AW10.out.below hb9); clear AW10
  have HX9 := Lib.hid (HX8.out.below hb9); clear HX8
  simp only [bCells, bits, itCells, Tm.cells, sY, sB, Tm.kind, Tm.name, Tm.sort, Tm.kids, List.length_nil, List.cons_append, List.nil_append] at hV9
  rw [hV8] at hV9
  rw [← hV9, ← hs8]
  have hCO := scompose_any [(sX, sF)] [(sY, sB)] (some ⟨B5, 0, none⟩) (some ⟨V8.heap.size, 0, none⟩) 1 1 V9 (fun b hb => by simp at hb; subst hb; exact ⟨by decide, by decide⟩) (fun b hb => by simp at hb; subst hb; exact ⟨by decide, by decide⟩) AW11.out.s hS9
  rw [aw_comp1] at hCO
  clear hV9 hb9 hs9 hS9 hs8 hV8
  refine hCO.mono ?_; clear hCO
  rintro e w8 ⟨A8, c8, rfl, hr8, hb8⟩
  have AW12 := Lib.hid (AW11.out.below hb8); clear AW11
  have HX10 := Lib.hid (HX9.out.below hb8); clear HX9
  have HC8 := Lib.hid (RepB.mono (P' := fun b => b < w8.heap.size) (fun b h => h.2) (fun _ _ => rfl) hr8); clear hr8 hb8
  obtain ⟨x0, x1, x2, x3, -⟩ := box_at AW12.out.x.1
  obtain ⟨y0, y1, y2, y3, -⟩ := box_at AW12.out.y.1
  simp only [sX, sY, Tm.kind, Tm.name, Tm.sort, Tm.kids, List.length_nil] at x0 x1 x2 x3 y0 y1 y2 y3
  obtain ⟨V9, hV9⟩ : ∃ V, V = w8.alloc (.cells (bCells [((sX, none, 0), (sY, none, 0))]).toArray 53) := ⟨_, rfl⟩
  have hb9 : Below w8.heap.size w8 V9 := by rw [hV9]; exact below1 (Nat.le_refl _) _
  have hs9 : V9.heap.size = w8.heap.size + 1 := by rw [hV9]; simp
  have hx9 : V9.heap[w8.heap.size]? = some (.cells (bCells [((sX, none, 0), (sY, none, 0))]).toArray 53 (0, 0)) := by rw [hV9]; exact heap_alloc_new _ _
  have AW13 := Lib.hid (AW12.out.below hb9)
  obtain ⟨p0, p1, p2, p3, -⟩ := box_at AW13.out.x.1
  obtain ⟨q0, q1, q2, q3, -⟩ := box_at AW13.out.y.1
  simp only [sX, sY, Tm.kind, Tm.name, Tm.sort, Tm.kids, List.length_nil] at p0 p1 p2 p3 q0 q1 q2 q3
  simp only [bCells, bits, itCells, Tm.cells, sX, sY, Tm.kind, Tm.name, Tm.sort, Tm.kids, List.length_nil, List.cons_append, List.nil_append] at hV9
  rw [hV9] at p0 p1 p2 p3 q0 q1 q2 q3
  simp only [List.length_cons, List.length_nil, Nat.zero_add, Nat.reduceAdd]
  go_wp2_with fail
  clear x0 x1 x2 x3 y0 y1 y2 y3 p0 p1 p2 p3 q0 q1 q2 q3
  obtain ⟨V10, hV10⟩ : ∃ V, V = V9.alloc (.cells (bCells [((sY, none, 0), (sX, none, 0))]).toArray 53) := ⟨_, rfl⟩
  have hb10 : Below V9.heap.size V9 V10 := by rw [hV10]; exact below1 (Nat.le_refl _) _
  have hs10 : V10.heap.size = V9.heap.size + 1 := by rw [hV10]; simp
  have hx10 : V10.heap[V9.heap.size]? = some (.cells (bCells [((sY, none, 0), (sX, none, 0))]).toArray 53 (0, 0)) := by rw [hV10]; exact heap_alloc_new _ _
  have hP9 : RepB V10 (fun b => b < V10.heap.size) [(sX, sY)] (some ⟨w8.heap.size, 0, none⟩) 1 :=
    repB_cells [((sX, none, 0), (sY, none, 0))] ((hb10.block _ (by omega)).trans hx9) (by omega)
      (fun x hx => by
        simp only [List.mem_cons, List.not_mem_nil, or_false] at hx; subst hx
        exact ⟨nilRep _ _ _ _ _ (by decide), nilRep _ _ _ _ _ (by decide)⟩) (by simp)
  have hP10 : RepB V10 (fun b => b < V10.heap.size) [(sY, sX)] (some ⟨V9.heap.size, 0, none⟩) 1 :=
    repB_cells [((sY, none, 0), (sX, none, 0))] hx10 (by omega)
      (fun x hx => by
        simp only [List.mem_cons, List.not_mem_nil, or_false] at hx; subst hx
        exact ⟨nilRep _ _ _ _ _ (by decide), nilRep _ _ _ _ _ (by decide)⟩) (by simp)
  have AW14 := Lib.hid (AW13.out.below hb10); clear AW12 AW13
  have HX11 := Lib.hid ((HX10.out.below hb9).below hb10); clear HX10
  have HC9 := Lib.hid ((HC8.out.go hb9 hb9.size).go hb10 hb10.size); clear HC8
  simp only [bCells, bits, itCells, Tm.cells, sX, sY, Tm.kind, Tm.name, Tm.sort, Tm.kids, List.length_nil, List.cons_append, List.nil_append] at hV10
  rw [hV9] at hV10
  rw [← hV10, ← hs9]
  have hCO := scompose_any [(sX, sY)] [(sY, sX)] (some ⟨w8.heap.size, 0, none⟩) (some ⟨V9.heap.size, 0, none⟩) 1 1 V10 (fun b hb => by simp at hb; subst hb; exact ⟨by decide, by decide⟩) (fun b hb => by simp at hb; subst hb; exact ⟨by decide, by decide⟩) hP9 hP10
  rw [aw_comp2] at hCO
  clear hV9 hV10 hb9 hb10 hs9 hs10 hx9 hx10 hP9 hP10
  refine hCO.mono ?_; clear hCO
  rintro e w9 ⟨A9, c9, rfl, hr9, hb9⟩
  have AW15 := Lib.hid (AW14.out.below hb9); clear AW14
  have HX12 := Lib.hid (HX11.out.below hb9); clear HX11
  have HC10 := Lib.hid (HC9.out.go hb9 hb9.size); clear HC9
  have HD := Lib.hid (RepB.mono (P' := fun b => b < w9.heap.size) (fun b h => h.2) (fun _ _ => rfl) hr9); clear hr9 hb9
  have hFO := sformat_any [(sX, sF)] (some ⟨B5, 0, none⟩) 1 w9 (fun b hb => by simp at hb; subst hb; exact ⟨by decide, by decide⟩) AW15.out.s (HW.out.below AW15.out.bw)
  rw [aw_form] at hFO
  have HFO := Lib.hid hFO; clear hFO
  simp only [List.length_cons, List.length_nil, Nat.zero_add] at HFO ⊢
  go_wp2_with fail
  refine HFO.out.mono ?_; clear HFO
  rintro e w10 ⟨rfl, hb10⟩
  have AW16 := Lib.hid (AW15.out.below hb10); clear AW15
  have HX13 := Lib.hid (HX12.out.below hb10); clear HX12
  have HC11 := Lib.hid (HC10.out.go hb10 hb10.size); clear HC10
  have HD2 := Lib.hid (HD.out.go hb10 hb10.size); clear HD hb10
  go_wp2_with fail
  refine wp_region_mix (fun Y => Below w10.drew.heap.size w10.drew Y) 29 (.op 0 (.op 1 (.op 2 (.op 3 (.op 4 (.op 5 (.op 6 (.op 7 (.op 8 (.op 9 (.op 10 (.op 11 (.op 12 (.op 13 (.op 14 (.op 15 (.op 16 (.op 17 (.op 18 (.held 19 (.held 20 (.held 21 (.op 22 (.op 23 (.op 24 (.op 25 (.op 26 (.op 27 (.op 28 .nil))))))))))))))))))))))))))))) mixed (by kernel_rfl) ?_
  have hd : Below w10.heap.size w10 w10.drew := (Below.refl _ _).drew
  have AW17 := Lib.hid (AW16.out.below hd); clear AW16
  have HX14 := Lib.hid (HX13.out.below hd); clear HX13
  have HC12 := Lib.hid (HC11.out.go hd hd.size); clear HC11
  have HD3 := Lib.hid (HD2.out.go hd hd.size); clear HD2 hd
  generalize w10.drew = Z at *
  iterate 19
    refine mix_op_g rfl (by rfl) (fun K hK => ?_)
    go_wp2_with fail
    refine ⟨fun _ => Below.refl _ _, ?_⟩
  refine mix_take_g (v := .agg #[.int .i64 3, .string ⟨#[103]⟩, .int .i64 0, .slice A7 1 c7]) rfl (by rfl) (fun _ _ _ h => h) (Below.refl _ _) (fun Y hY => by
    obtain ⟨z0, z1, z2, z3, -⟩ := box_at (HX14.out.below hY).1
    rw [hB7] at z0 z1 z2 z3
    simp only [sGF, sF, Tm.kind, Tm.name, Tm.sort, Tm.kids, List.length_cons, List.length_nil, Nat.zero_add] at z0 z1 z2 z3
    (try simp only [Act.put]); go_simp) ?_
  refine mix_take_g (v := .agg #[.int .i64 1, .string ⟨#[121]⟩, .int .i64 0, .slice none 0 0]) rfl (by rfl) (fun _ _ _ h => h) (Below.refl _ _) (fun Y hY => by
    obtain ⟨z0, z1, z2, z3, -⟩ := box_at (AW17.out.y.below hY).1
    simp only [sY, Tm.kind, Tm.name, Tm.sort, Tm.kids, List.length_nil] at z0 z1 z2 z3
    (try simp only [Act.put]); go_simp) ?_
  refine mix_take_g (v := .agg #[.int .i64 2, .string ⟨#[97]⟩, .int .i64 0, .slice none 0 0]) rfl (by rfl) (fun _ _ _ h => h) (Below.refl _ _) (fun Y hY => by
    obtain ⟨z0, z1, z2, z3, -⟩ := box_at (AW17.out.a.below hY).1
    simp only [sA, Tm.kind, Tm.name, Tm.sort, Tm.kids, List.length_nil] at z0 z1 z2 z3
    (try simp only [Act.put]); go_simp) ?_
  simp only [Act.put, List.setIfInBounds_toArray]
  refine mix_op_g rfl (by rfl) (fun K hK => ?_)
  go_wp2_with fail
  refine ⟨fun _ => below1 (Nat.le_refl _) _, ?_⟩
  obtain ⟨Z1, hZ1⟩ : ∃ V, V = Z.alloc (.cells (itCells [(sY, none, 0), (sA, none, 0)]).toArray 24) := ⟨_, rfl⟩
  obtain ⟨hS1, hb1⟩ := slice_new _ hZ1 (by simp) (fun x hx => by simp at hx; rcases hx with rfl | rfl <;> exact nilRep _ _ _ _ _ (by decide))
  simp only [sY, sA, itCells, Tm.cells, Tm.kind, Tm.name, Tm.sort, Tm.kids, List.length_nil, List.cons_append, List.nil_append] at hZ1
  rw [← hZ1]
  have HZ1 := Lib.hid hZ1; clear hZ1
  have HAP := Lib.hid (app_any ⟨#[102]⟩ [sY, sA] (some ⟨Z.heap.size, 0, none⟩) 2 Z1 (by decide) (by simp) (by simp) hS1); clear hS1
  refine mix_op_g rfl (by rfl) (fun K hK => ?_)
  go_wp2_with fail
  refine HAP.out.mono ?_; clear HAP
  rintro e w11 ⟨A10, c10, rfl, hr10, hb10⟩
  have hB := below_then hb1 hb10 hb1.size
  refine hK _ _ ⟨fun _ => hB, ?_⟩; clear hK K
  have HB := Lib.hid hB; clear hB hb1 hb10 HZ1
  have HR10 : Hid (RepT w11 w11.heap.size sF A10 c10) := hr10
  clear hr10
  simp only [sY, sA, Tm.val, Tm.kind, Tm.name, Tm.sort, Tm.kids, List.length_cons, List.length_nil, Nat.zero_add, Nat.reduceAdd]
  refine mix_op_g rfl (by rfl) (fun K hK => ?_)
  go_wp2_with fail
  refine ⟨fun _ => HB.out.alloc HB.out.size _, ?_⟩
  obtain ⟨Z1, hZ1⟩ : ∃ V, V = w11.alloc (.cells (itCells [(sF, A10, c10)]).toArray 24) := ⟨_, rfl⟩
  obtain ⟨hS1, hb1⟩ := slice_new _ hZ1 (by simp) (fun x hx => by simp at hx; subst hx; exact HR10.out)
  simp only [sY, sA, sF, itCells, Tm.cells, Tm.kind, Tm.name, Tm.sort, Tm.kids, List.length_cons, List.length_nil, List.cons_append, List.nil_append, Nat.zero_add, Nat.reduceAdd] at hZ1
  rw [← hZ1]
  have HZ1 := Lib.hid hZ1; clear hZ1
  have HAP := Lib.hid (app_any ⟨#[103]⟩ [sF] (some ⟨w11.heap.size, 0, none⟩) 1 Z1 (by decide) (by simp) (by simp) hS1); clear hS1
  refine mix_op_g rfl (by rfl) (fun K hK => ?_)
  go_wp2_with fail
  refine HAP.out.mono ?_; clear HAP
  rintro e w12 ⟨A12, c12, rfl, hr12, hb12⟩
  have hB := below_then (below_then HB.out hb1 HB.out.size) hb12 (by have := HB.out.size; have := hb1.size; omega)
  refine hK _ _ ⟨fun _ => hB, ?_⟩; clear hK K HB
  have HB := Lib.hid hB; clear hB hb1 hb12 HZ1 HR10
  have HSA := rsame_any sGF sGF A7 A12 c7 c12 w12 (by decide) (by decide) (HX14.out.below HB.out).2 hr12
  rw [Tm.same_iff.2 rfl] at HSA
  have HSA := Lib.hid HSA; clear hr12
  simp only [sY, sA, sF, sGF, Tm.val, Tm.kind, Tm.name, Tm.sort, Tm.kids, List.length_cons, List.length_nil, Nat.zero_add] at HSA ⊢
  refine mix_op_g rfl (by rfl) (fun K hK => ?_)
  go_wp2_with fail
  refine HSA.out.mono ?_; clear HSA
  rintro e w13 ⟨rfl, hl13⟩
  have hB := below_then HB.out hl13.below HB.out.size
  refine hK _ _ ⟨fun _ => hB, ?_⟩; clear hK K HB
  have HB := Lib.hid hB; clear hB hl13
  refine mix_op_g rfl (by rfl) (fun K hK => ?_)
  go_wp2_with fail
  refine ⟨fun _ => HB.out, ?_⟩
  refine mix_op_g rfl (by rfl) (fun K hK => ?_)
  go_wp2_with fail
  refine ⟨fun _ => HB.out, mix_nil ?_⟩
  have AW18 := Lib.hid (AW17.out.below HB.out); clear AW17 HX14
  have HC13 := Lib.hid (HC12.out.go HB.out HB.out.size); clear HC12
  have HD4 := Lib.hid (HD3.out.go HB.out HB.out.size); clear HD3 HB
  go_wp2_with fail
  refine wp_region_mix (fun Y => Below w13.drew.heap.size w13.drew Y) 10 (.held 0 (.held 1 (.held 2 (.held 6 (.held 7 (.held 8 (.op 3 (.op 4 (.op 5 (.op 9 (.op 10 .nil))))))))))) mixed (by kernel_rfl) ?_
  have hd : Below w13.heap.size w13 w13.drew := (Below.refl _ _).drew
  have AW19 := Lib.hid (AW18.out.below hd); clear AW18
  have HC14 := Lib.hid (HC13.out.go hd hd.size); clear HC13
  have HD5 := Lib.hid (HD4.out.go hd hd.size); clear HD4 hd
  generalize w13.drew = Z at *
  refine mix_take_g (v := .agg #[.int .i64 1, .string ⟨#[120]⟩, .int .i64 0, .slice none 0 0]) rfl (by rfl) (fun _ _ _ h => h) (Below.refl _ _) (fun Y hY => by
    obtain ⟨z0, z1, z2, z3, -⟩ := box_at (AW19.out.x.below hY).1
    simp only [sX, Tm.kind, Tm.name, Tm.sort, Tm.kids, List.length_nil] at z0 z1 z2 z3
    (try simp only [Act.put]); go_simp) ?_
  refine mix_take_g (v := .agg #[.int .i64 2, .string ⟨#[98]⟩, .int .i64 0, .slice none 0 0]) rfl (by rfl) (fun _ _ _ h => h) (Below.refl _ _) (fun Y hY => by
    obtain ⟨z0, z1, z2, z3, -⟩ := box_at (AW19.out.b.below hY).1
    simp only [sB, Tm.kind, Tm.name, Tm.sort, Tm.kids, List.length_nil] at z0 z1 z2 z3
    (try simp only [Act.put]); go_simp) ?_
  refine mix_take_g (v := .agg #[.int .i64 2, .string ⟨#[97]⟩, .int .i64 0, .slice none 0 0]) rfl (by rfl) (fun _ _ _ h => h) (Below.refl _ _) (fun Y hY => by
    obtain ⟨z0, z1, z2, z3, -⟩ := box_at (AW19.out.a.below hY).1
    simp only [sA, Tm.kind, Tm.name, Tm.sort, Tm.kids, List.length_nil] at z0 z1 z2 z3
    (try simp only [Act.put]); go_simp) ?_
  refine mix_take_g (v := .agg #[.int .i64 1, .string ⟨#[121]⟩, .int .i64 0, .slice none 0 0]) rfl (by rfl) (fun _ _ _ h => h) (Below.refl _ _) (fun Y hY => by
    obtain ⟨z0, z1, z2, z3, -⟩ := box_at (AW19.out.y.below hY).1
    simp only [sY, Tm.kind, Tm.name, Tm.sort, Tm.kids, List.length_nil] at z0 z1 z2 z3
    (try simp only [Act.put]); go_simp) ?_
  refine mix_take_g (v := .agg #[.int .i64 2, .string ⟨#[98]⟩, .int .i64 0, .slice none 0 0]) rfl (by rfl) (fun _ _ _ h => h) (Below.refl _ _) (fun Y hY => by
    obtain ⟨z0, z1, z2, z3, -⟩ := box_at (AW19.out.b.below hY).1
    simp only [sB, Tm.kind, Tm.name, Tm.sort, Tm.kids, List.length_nil] at z0 z1 z2 z3
    (try simp only [Act.put]); go_simp) ?_
  refine mix_take_g (v := .agg #[.int .i64 1, .string ⟨#[121]⟩, .int .i64 0, .slice none 0 0, .int .i64 2, .string ⟨#[98]⟩, .int .i64 0, .slice none 0 0]) rfl (by rfl) (fun _ _ _ h => h) (Below.refl _ _) (fun Y hY => by
    (try simp only [Act.put]); go_simp) ?_
  simp only [Act.put, List.setIfInBounds_toArray]
  refine mix_op_g rfl (by rfl) (fun K hK => ?_)
  go_wp2_with fail
  refine ⟨fun _ => below1 (Nat.le_refl _) _, ?_⟩
  obtain ⟨Z1, hZ1⟩ : ∃ V, V = Z.alloc (.cells (itCells [(sB, none, 0), (sA, none, 0)]).toArray 24) := ⟨_, rfl⟩
  obtain ⟨hS1, hb1⟩ := slice_new _ hZ1 (by simp) (fun x hx => by simp at hx; rcases hx with rfl | rfl <;> exact nilRep _ _ _ _ _ (by decide))
  simp only [sA, sB, itCells, Tm.cells, Tm.kind, Tm.name, Tm.sort, Tm.kids, List.length_nil, List.cons_append, List.nil_append] at hZ1
  rw [← hZ1]
  have HZ1 := Lib.hid hZ1; clear hZ1
  have HAP := Lib.hid (app_any ⟨#[102]⟩ [sB, sA] (some ⟨Z.heap.size, 0, none⟩) 2 Z1 (by decide) (by simp) (by simp) hS1); clear hS1
  refine mix_op_g rfl (by rfl) (fun K hK => ?_)
  go_wp2_with fail
  refine HAP.out.mono ?_; clear HAP
  rintro e w14 ⟨A10, c10, rfl, hr10, hb10⟩
  have hB := below_then hb1 hb10 hb1.size
  refine hK _ _ ⟨fun _ => hB, ?_⟩; clear hK K
  have HB := Lib.hid hB; clear hB hb1 hb10 HZ1
  have HR10 : Hid (RepT w14 w14.heap.size sFB A10 c10) := hr10
  clear hr10
  simp only [sA, sB, Tm.val, Tm.kind, Tm.name, Tm.sort, Tm.kids, List.length_cons, List.length_nil, Nat.zero_add, Nat.reduceAdd]
  refine mix_op_g rfl (by rfl) (fun K hK => ?_)
  go_wp2_with fail
  refine ⟨fun _ => HB.out, ?_⟩
  refine mix_op_g rfl (by rfl) (fun K hK => ?_)
  go_wp2_with fail
  refine ⟨fun _ => HB.out.alloc HB.out.size _, ?_⟩
  obtain ⟨Z1, hZ1⟩ : ∃ V, V = w14.alloc (.cells (bCells [((sX, none, 0), (sFB, A10, c10)), ((sY, none, 0), (sB, none, 0))]).toArray 53) := ⟨_, rfl⟩
  obtain ⟨hS1, hb1⟩ := bslice_new _ hZ1 (by simp) (fun x hx => by simp at hx; rcases hx with rfl | rfl; exact ⟨nilRep _ _ _ _ _ (by decide), HR10.out⟩; exact ⟨nilRep _ _ _ _ _ (by decide), nilRep _ _ _ _ _ (by decide)⟩)
  simp only [sX, sY, sA, sB, sFB, bCells, bits, itCells, Tm.cells, Tm.kind, Tm.name, Tm.sort, Tm.kids, List.length_cons, List.length_nil, List.cons_append, List.nil_append, Nat.zero_add, Nat.reduceAdd] at hZ1
  rw [← hZ1]
  have HZ1 := Lib.hid hZ1; clear hZ1
  have HWT := Lib.hid hS1; clear hS1
  have hB := below_then HB.out hb1 HB.out.size
  clear HB HR10 hb1
  have HB := Lib.hid hB; clear hB
  refine mix_op_g rfl (by rfl) (fun K hK => ?_)
  go_wp2_with fail
  refine ⟨fun h => absurd h (by decide), mix_nil ?_⟩
  have AW20 := Lib.hid (AW19.out.below HB.out); clear AW19
  have HC15 := Lib.hid (HC14.out.go HB.out HB.out.size); clear HC14
  have HD6 := Lib.hid (HD5.out.go HB.out HB.out.size); clear HD5 HB
  clear HZ1
  go_wp2_with fail
  refine (var_any ⟨#[110]⟩ 2 Z1).mono ?_
  rintro e w15 ⟨rfl, hl15⟩
  have AZ1 := Lib.hid (AW20.out.below hl15.below); clear AW20
  have CZ1 := Lib.hid (HC15.out.go hl15.below hl15.below.size); clear HC15
  have DZ1 := Lib.hid (HD6.out.go hl15.below hl15.below.size); clear HD6
  have WZ1 := Lib.hid (HWT.out.go hl15.below hl15.below.size); clear HWT hl15
  simp only [Tm.val, Tm.kind, Tm.name, Tm.sort, Tm.kids, List.length_nil]
  obtain ⟨VN, hVN⟩ : ∃ V, V = w15.alloc (boxOf sN none 0) := ⟨_, rfl⟩
  have hN : BoxT VN w15.heap.size sN none 0 := by rw [hVN]; exact BoxT.new (nilRep _ _ _ _ _ (by decide))
  have hn : Below w15.heap.size w15 VN := by rw [hVN]; exact below1 (Nat.le_refl _) _
  have AZ2 := Lib.hid (AZ1.out.below hn); clear AZ1
  have CZ2 := Lib.hid (CZ1.out.go hn hn.size); clear CZ1
  have DZ2 := Lib.hid (DZ1.out.go hn hn.size); clear DZ1
  have WZ2 := Lib.hid (WZ1.out.go hn hn.size); clear WZ1
  clear hn
  have NZ2 := Lib.hid hN; clear hN
  simp only [sN, boxOf, Tm.kind, Tm.name, Tm.sort, Tm.kids, List.length_nil] at hVN
  have HVN := Lib.hid hVN; clear hVN
  have HSA := rsameB_any [(sX, sFB), (sY, sB)] [(sX, sFB), (sY, sB)] A8 _ c8 _ VN (fun b hb => by simp at hb; rcases hb with rfl | rfl <;> exact ⟨by decide, by decide⟩) (fun b hb => by simp at hb; rcases hb with rfl | rfl <;> exact ⟨by decide, by decide⟩) CZ2.out WZ2.out
  rw [decide_eq_true rfl] at HSA
  have HSA := Lib.hid HSA
  simp only [sX, sY, sA, sB, sFB, List.length_cons, List.length_nil, Nat.zero_add, Nat.reduceAdd] at HSA
  go_wp2_with fail
  rw [← HVN.out]
  refine HSA.out.mono ?_; clear HSA HVN CZ2 WZ2
  rintro e w16 ⟨rfl, hl16⟩
  have AZ3 := Lib.hid (AZ2.out.below hl16.below); clear AZ2
  have NZ3 := Lib.hid (NZ2.out.below hl16.below); clear NZ2
  have DZ3 := Lib.hid (DZ2.out.go hl16.below hl16.below.size); clear DZ2
  clear hl16
  obtain ⟨x0, x1, x2, x3, -⟩ := box_at AZ3.out.x.1
  obtain ⟨y0, y1, y2, y3, -⟩ := box_at AZ3.out.y.1
  simp only [sX, sY, Tm.kind, Tm.name, Tm.sort, Tm.kids, List.length_nil] at x0 x1 x2 x3 y0 y1 y2 y3
  go_wp2_with fail
  clear x0 x1 x2 x3 y0 y1 y2 y3
  obtain ⟨V16, hV16⟩ : ∃ V, V = w16.alloc (.cells (bCells [((sY, none, 0), (sX, none, 0))]).toArray 53) := ⟨_, rfl⟩
  obtain ⟨hS16, hv16⟩ := bslice_new _ hV16 (by simp) (fun x hx => by simp at hx; subst hx; exact ⟨nilRep _ _ _ _ _ (by decide), nilRep _ _ _ _ _ (by decide)⟩)
  simp only [sX, sY, bCells, bits, itCells, Tm.cells, Tm.kind, Tm.name, Tm.sort, Tm.kids, List.length_nil, List.cons_append, List.nil_append] at hV16
  rw [← hV16]
  clear hV16
  have AZ4 := Lib.hid (AZ3.out.below hv16); clear AZ3
  have NZ4 := Lib.hid (NZ3.out.below hv16); clear NZ3
  have DZ4 := Lib.hid (DZ3.out.go hv16 hv16.size); clear DZ3
  clear hv16
  have HSA := rsameB_any [(sY, sX)] [(sY, sX)] A9 _ c9 _ V16 (fun b hb => by simp at hb; subst hb; exact ⟨by decide, by decide⟩) (fun b hb => by simp at hb; subst hb; exact ⟨by decide, by decide⟩) DZ4.out hS16
  rw [decide_eq_true rfl] at HSA
  have HSA := Lib.hid HSA; clear hS16 DZ4
  simp only [sX, sY, List.length_cons, List.length_nil, Nat.zero_add] at HSA
  refine HSA.out.mono ?_; clear HSA
  rintro e w17 ⟨rfl, hl17⟩
  have AZ5 := Lib.hid (AZ4.out.below hl17.below); clear AZ4
  have NZ5 := Lib.hid (NZ4.out.below hl17.below); clear NZ4
  clear hl17
  obtain ⟨x0, x1, x2, x3, -⟩ := box_at AZ5.out.a.1
  obtain ⟨y0, y1, y2, y3, -⟩ := box_at NZ5.out.1
  simp only [sA, sN, Tm.kind, Tm.name, Tm.sort, Tm.kids, List.length_nil] at x0 x1 x2 x3 y0 y1 y2 y3
  go_wp2_with fail
  clear x0 x1 x2 x3 y0 y1 y2 y3
  obtain ⟨V17, hV17⟩ : ∃ V, V = w17.alloc (.cells (bCells [((sN, none, 0), (sA, none, 0))]).toArray 53) := ⟨_, rfl⟩
  obtain ⟨hS17, hv17⟩ := bslice_new _ hV17 (by simp) (fun x hx => by simp at hx; subst hx; exact ⟨nilRep _ _ _ _ _ (by decide), nilRep _ _ _ _ _ (by decide)⟩)
  simp only [sA, sN, bCells, bits, itCells, Tm.cells, Tm.kind, Tm.name, Tm.sort, Tm.kids, List.length_nil, List.cons_append, List.nil_append] at hV17
  rw [← hV17]
  clear hV17
  have AZ6 := Lib.hid (AZ5.out.below hv17); clear AZ5
  have NZ6 := Lib.hid (NZ5.out.below hv17); clear NZ5
  clear hv17 NZ6
  have HSA := svalid_any [(sN, sA)] _ _ V17 (fun b hb => by simp at hb; subst hb; exact ⟨by decide, by decide⟩) hS17
  rw [aw_val1] at HSA
  have HSA := Lib.hid HSA; clear hS17
  simp only [sA, sN, List.length_cons, List.length_nil, Nat.zero_add] at HSA
  refine HSA.out.mono ?_; clear HSA
  rintro e w18 ⟨rfl, hl18⟩
  have AZ7 := Lib.hid (AZ6.out.below hl18.below); clear AZ6
  clear hl18
  obtain ⟨x0, x1, x2, x3, -⟩ := box_at AZ7.out.x.1
  simp only [sX, Tm.kind, Tm.name, Tm.sort, Tm.kids, List.length_nil] at x0 x1 x2 x3
  go_wp2_with fail
  clear x0 x1 x2 x3
  obtain ⟨V18, hV18⟩ : ∃ V, V = w18.alloc (.cells (bCells [((sX, none, 0), (sX, none, 0))]).toArray 53) := ⟨_, rfl⟩
  obtain ⟨hS18, hv18⟩ := bslice_new _ hV18 (by simp) (fun x hx => by simp at hx; subst hx; exact ⟨nilRep _ _ _ _ _ (by decide), nilRep _ _ _ _ _ (by decide)⟩)
  simp only [sX, bCells, bits, itCells, Tm.cells, Tm.kind, Tm.name, Tm.sort, Tm.kids, List.length_nil, List.cons_append, List.nil_append] at hV18
  rw [← hV18]
  clear hV18
  have AZ8 := Lib.hid (AZ7.out.below hv18); clear AZ7
  clear hv18
  have HSA := svalid_any [(sX, sX)] _ _ V18 (fun b hb => by simp at hb; subst hb; exact ⟨by decide, by decide⟩) hS18
  rw [aw_val2] at HSA
  have HSA := Lib.hid HSA; clear hS18
  simp only [sX, List.length_cons, List.length_nil, Nat.zero_add] at HSA
  refine HSA.out.mono ?_; clear HSA
  rintro e w19 ⟨rfl, hl19⟩
  have AZ9 := Lib.hid (AZ8.out.below hl19.below); clear AZ8 hl19
  go_wp2_with fail
  go_ret
  exact ⟨rfl, AZ9.out.bw⟩
end Go.Proofs.YtipmibjhlpnhjaaGreatDoor
