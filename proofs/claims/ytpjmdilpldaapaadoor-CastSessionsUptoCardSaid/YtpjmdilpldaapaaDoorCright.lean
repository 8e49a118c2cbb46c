/- The reference's Right, of a list of different agents. -/
import Derived.Test.YtpjmdilpldaapaaDoorCsame
namespace Go.Proofs.YtpjmdilpldaapaaDoor
open Go.RowKit Go.Sort

theorem cell_of_heap {X w : World} (h : X.heap = w.heap) {p : Addr} : X.cell? p = w.cell? p := by unfold World.cell?; rw [h]
theorem not_mem_take {l : List ByteArray} (h : l.Nodup) {k : Nat} (hk : k < l.length) : l[k] ∉ l.take k := by
  intro hm
  obtain ⟨j, hj, he⟩ := List.getElem_of_mem hm
  rw [List.length_take] at hj
  rw [List.getElem_take] at he
  have h1 := posS_at l j (by omega) h
  have h2 := posS_at l k hk h
  rw [he, h2] at h1
  omega

attribute [local irreducible] wpMix4
set_option linter.unusedSimpArgs false in
set_option linter.unusedVariables false in
set_option maxHeartbeats 4000000 in
set_option maxRecDepth 100000 in
theorem rright_any (ags bad l : List ByteArray) (Aa Ab A : Option Addr) (ca cb c : Nat) (r : Int) (k0 : Nat) (hk0 : k0 < l.length) (hr : r = k0) (w : World) (hc : CastW w ags bad Aa ca Ab cb) (hl : RepN w (fun b => b < w.heap.size) l A c) (hnd : l.Nodup) (hmem : ∀ x ∈ l, x ∈ ags) (hlen : l.length ≤ 1000) :
    Calls Tryd.prog 74 #[castV ags bad Aa ca Ab cb, .int .i64 l.length, .agg #[.int .i64 r, .slice A l.length c]] w fun e w' => e = .returned (.bool (!hasS bad l[k0])) ∧ Below w.heap.size w w' := by
  have mixed : Tryd.prog.follows .mixedOrders = true := by kernel_rfl
  obtain ⟨W0, hW0⟩ : ∃ W0, W0 = w.alloc (.cells #[.slice Aa ags.length ca, .slice Ab bad.length cb] 24) := ⟨_, rfl⟩
  have hl0 : Below w.heap.size w W0 := by rw [hW0]; exact below1 (Nat.le_refl _) _
  have hx0 : W0.heap[w.heap.size]? = some (boxC ags bad Aa ca Ab cb) := by rw [hW0]; exact heap_alloc_new _ _
  have s0 : W0.heap.size = w.heap.size + 1 := by rw [hW0]; simp
  obtain ⟨b, off, hA, hbl, hcl⟩ := hl.cells (by intro h; rw [h] at hk0; simp at hk0)
  subst hA
  obtain ⟨W1, hW1⟩ : ∃ W1, W1 = W0.alloc (.cells #[.int .i64 r, .slice (some ⟨b, off, none⟩) l.length c] 63) := ⟨_, rfl⟩
  have hl1 : Below W0.heap.size W0 W1 := by rw [hW1]; exact below1 (Nat.le_refl _) _
  have hy1 : W1.heap[w.heap.size + 1]? = some (.cells #[.int .i64 r, .slice (some ⟨b, off, none⟩) l.length c] 63 (0, 0)) := by rw [hW1, ← s0]; exact heap_alloc_new _ _
  have hx1 := (hl1.block w.heap.size (by omega)).trans hx0
  have s1 : W1.heap.size = w.heap.size + 2 := by rw [hW1]; simp [s0]
  have hl01 : Below w.heap.size w W1 := hl0.trans (hl1.mono (by omega))
  have HB0 := Lib.hid hl01; have HS1 := Lib.hid s1; have HX1 := Lib.hid hx1; have HY1 := Lib.hid hy1
  have HCW := Lib.hid (hc.below hl01); have HLW := Lib.hid (hl.go hl01 hl01.size)
  have HBL := Lib.hid hbl; have HCL : Hid (∀ j (h : j < l.length), w.cell? ⟨b, off + j, none⟩ = some (.string l[j])) := Lib.hid hcl
  have hcc := hl.1
  have hcm := hl.2.1
  unfold maxLen at hcm
  obtain ⟨c0, c1, -⟩ := boxC_cells hx1
  obtain ⟨d0, d1, -⟩ := cast2_cells hy1
  rw [hW0] at hW1
  rw [hW1] at c0 c1 d0 d1
  have HW1 := Lib.hid hW1
  have HND := Lib.hid hnd; have HME := Lib.hid hmem; have HKR := Lib.hid hr
  have hr0 : ¬ r < 0 := by omega
  have hr1 : ¬ (l.length : Int) ≤ r := by omega
  have hrd0 : decide (r < 0) = false := decide_eq_false hr0
  have hrd1 : decide ((l.length : Int) ≤ r) = false := decide_eq_false hr1
  have hll : ((l.length : Int) != (l.length : Int)) = false := bne_self_eq_false _
  obtain ⟨q, hq⟩ : ∃ q, q = !hasS bad l[k0] := ⟨_, rfl⟩
  rw [← hq]
  have HQ := Lib.hid hq
  clear hl0 hx0 s0 hl1 hy1 hx1 s1 hl01 hW0 hW1 hc hl hnd hmem hr hbl hcl hq
  unfold castV
  go_enter Tryd.func74, Tryd.ntmps74
  go_wp2_with fail
  rw [← HW1.out]
  clear c0 c1 d0 d1 HW1 hrd0 hrd1 hll
  go_loopw [7] (fun i wr => ∃ k : Nat, k ≤ l.length ∧ i = .int .i64 k ∧ Hid (Below W1.heap.size W1 wr)) (fun i _ => l.length - (intOf i).toNat)
  case atStart => exact ⟨0, Nat.zero_le _, rfl, Below.refl _ _⟩
  case round =>
    obtain ⟨k, hk, rfl, HB⟩ := hrel
    have i1 : (0 : Int) ≤ (k : Int) := Int.natCast_nonneg _
    have hx2 : wr.heap[w.heap.size]? = some (boxC ags bad Aa ca Ab cb) := by rw [HB.out.block _ (by have := HS1.out; omega)]; exact HX1.out
    have hy2 : wr.heap[w.heap.size + 1]? = some (.cells #[.int .i64 r, .slice (some ⟨b, off, none⟩) l.length c] 63 (0, 0)) := by rw [HB.out.block _ (by have := HS1.out; omega)]; exact HY1.out
    obtain ⟨c0, c1, -⟩ := boxC_cells hx2
    obtain ⟨d0, d1, -⟩ := cast2_cells hy2
    clear hx2 hy2
    have HB01 := Lib.hid (HB0.out.trans (HB.out.mono HB0.out.size))
    by_cases hlt : k < l.length
    · have i2 : (k : Int) < (l.length : Int) := by omega
      have hck := (HB01.out.cell (p := ⟨b, off + k, none⟩) HBL.out).trans (HCL.out k hlt)
      have HF1 : Hid (∀ X, X.heap = wr.heap → Calls Tryd.prog 66 #[.slice Aa ags.length ca, .string l[k]] X fun e w' => e = .returned (.int .i64 (posS ags l[k])) ∧ w' = X) := Lib.hid fun X hX => find_any ags Aa ca l[k] X (P := fun _ => True) (RepN.mono (fun _ _ => trivial) (fun p _ => cell_of_heap hX) (HCW.out.below HB.out).a)
      have HF2 : Hid (∀ X, X.heap = wr.heap → Calls Tryd.prog 66 #[.slice (some ⟨b, off, none⟩) k c, .string l[k]] X fun e w' => e = .returned (.int .i64 (-1)) ∧ w' = X) := Lib.hid fun X hX => by
        have h := find_any (l.take k) (some ⟨b, off, none⟩) c l[k] X (P := fun _ => True) (RepN.mono (fun _ _ => trivial) (fun p _ => cell_of_heap hX) ((HLW.out.go HB.out HB.out.size).take k (by omega)))
        rw [posS_none (not_mem_take HND.out hlt), List.length_take, Nat.min_eq_left hk] at h
        exact h
      obtain ⟨z, hz⟩ : ∃ z, z = posS ags l[k] := ⟨_, rfl⟩
      have hz0 : 0 ≤ z := by rw [hz]; exact (posS_nonneg _ _).2 (HME.out _ (List.getElem_mem hlt))
      have hz1 : ¬ z < 0 := by omega
      have hz2 : decide (z < 0) = false := decide_eq_false hz1
      rw [← hz] at HF1
      obtain ⟨y, hy⟩ : ∃ y, y = l[k] := ⟨_, rfl⟩
      rw [← hy] at HF1 HF2 hck
      have hkc : k ≤ c := by omega
      clear hz hy HB01
      go_wp2_with fail
      refine wp_region_mix4 (fun _ => True) (fun Y => Below wr.drew.heap.size wr.drew Y) [] (.held 0 (.held 1 (.held 2 (.held 3 (.held 4 (.held 5 (.held 6 (.op 7 (.held 8 (.held 9 (.held 10 (.held 11 (.held 12 (.held 13 (.held 14 (.held 15 (.held 16 (.held 17 (.held 18 (.op 19 (.held 20 (.held 21 .nil)))))))))))))))))))))) mixed (by kernel_rfl) ?_
      have HX : Hid (wr.drew.heap[w.heap.size]? = some (boxC ags bad Aa ca Ab cb)) := Lib.hid (by show wr.heap[_]? = _; rw [HB.out.block _ (by have := HS1.out; omega)]; exact HX1.out)
      have HY : Hid (wr.drew.heap[w.heap.size + 1]? = some (.cells #[.int .i64 r, .slice (some ⟨b, off, none⟩) l.length c] 63 (0, 0))) := Lib.hid (by show wr.heap[_]? = _; rw [HB.out.block _ (by have := HS1.out; omega)]; exact HY1.out)
      have HSB : Hid (w.heap.size + 1 < wr.drew.heap.size) := Lib.hid (by show _ < wr.heap.size; have := HB.out.size; have := HS1.out; omega)
      have dk : wr.drew.cell? ⟨b, off + k, none⟩ = some (.string y) := hck
      have HBD := Lib.hid HB.out.drew
      have HF1D := Lib.hid (HF1.out wr.drew rfl)
      have HF2D := Lib.hid (HF2.out wr.drew rfl)
      clear HF2
      have HF2 := HF2D
      clear HF2D
      clear HF1
      clear hck c0 c1 d0 d1 HB
      have HF1 := HF1D
      clear HF1D
      generalize wr.drew = D at *
      refine mix4_take (v := .pointer (some ⟨w.heap.size, 0, none⟩)) rfl rfl rfl (fun _ _ _ h => h) trivial (Below.refl D.heap.size D) (fun Y _ hY => by
        (try simp only [Act.put]); go_simp) ?_
      refine mix4_take (v := .slice Aa ags.length ca) rfl rfl rfl (fun _ _ _ h => h) trivial (Below.refl D.heap.size D) (fun Y _ hY => by
        obtain ⟨z0, z1, -⟩ := boxC_cells ((hY.block _ (by have := HSB.out; omega)).trans HX.out)
        clear hY dk
        (try simp only [Act.put]); go_simp) ?_
      refine mix4_take (v := .pointer (some ⟨w.heap.size + 1, 1, none⟩)) rfl rfl rfl (fun _ _ _ h => h) trivial (Below.refl D.heap.size D) (fun Y _ hY => by
        (try simp only [Act.put]); go_simp) ?_
      refine mix4_take (v := .slice (some ⟨b, off, none⟩) l.length c) rfl rfl rfl (fun _ _ _ h => h) trivial (Below.refl D.heap.size D) (fun Y _ hY => by
        obtain ⟨z0, z1, -⟩ := cast2_cells ((hY.block _ (by have := HSB.out; omega)).trans HY.out)
        clear hY dk
        (try simp only [Act.put]); go_simp) ?_
      (try simp only [Act.put, List.setIfInBounds_toArray, List.set_cons_succ, List.set_cons_zero, List.getElem_toArray, List.getElem_cons_succ, List.getElem_cons_zero])
      refine mix4_take (v := .int .i64 k) rfl rfl rfl (fun _ _ _ h => h) trivial (Below.refl D.heap.size D) (fun Y _ hY => by
        (try simp only [Act.put]); go_simp) ?_
      refine mix4_take (v := .pointer (some ⟨b, off + k, none⟩)) rfl rfl rfl (fun _ _ _ h => h) trivial (Below.refl D.heap.size D) (fun Y _ hY => by
        (try simp only [Act.put]); go_simp) ?_
      refine mix4_take (v := .string y) rfl rfl rfl (fun _ _ _ h => h) trivial (Below.refl D.heap.size D) (fun Y _ hY => by
        have z2 := (hY.cell (World.block_lt dk)).trans dk
        clear hY dk
        (try simp only [Act.put]); go_simp) ?_
      (try simp only [Act.put, List.setIfInBounds_toArray, List.set_cons_succ, List.set_cons_zero, List.getElem_toArray, List.getElem_cons_succ, List.getElem_cons_zero])
      refine mix4_op rfl rfl (fun K hK => ?_)
      have HCC := Lib.hid (HF1.out)
      go_wp2_with fail
      refine HCC.out.mono ?_; clear HCC
      rintro e y7 ⟨rfl, hw7⟩
      have HB7 := Lib.hid (Below.trans (Below.refl D.heap.size D) ((show Below D.heap.size D y7 by rw [hw7]; exact Below.refl _ _).mono (Below.size (Below.refl D.heap.size D))))
      refine hK _ _ ⟨⟨fun _ => trivial, HB7.out⟩, ?_⟩
      clear hK K
      subst hw7
      refine mix4_take (v := .bool false) rfl rfl rfl (fun _ _ _ h => h) trivial HB7.out (fun Y _ hY => by
        (try simp only [Act.put]); go_simp) ?_
      (try simp only [Act.put, List.setIfInBounds_toArray, List.set_cons_succ, List.set_cons_zero, List.getElem_toArray, List.getElem_cons_succ, List.getElem_cons_zero])
      refine mix4_take (v := .bool false) rfl rfl rfl (fun _ _ _ h => h) trivial HB7.out (fun Y _ hY => by
        (try simp only [Act.put]); go_simp) ?_
      refine mix5_take_g (v := .pointer (some ⟨w.heap.size + 1, 1, none⟩)) rfl (by kernel_rfl) rfl (fun _ _ _ h => h) trivial HB7.out (fun Y _ hY => by
        (try simp only [Act.put]); go_simp) ?_
      (try simp only [Act.put, List.setIfInBounds_toArray, List.set_cons_succ, List.set_cons_zero, List.getElem_toArray, List.getElem_cons_succ, List.getElem_cons_zero])
      refine mix5_take_g (v := .slice (some ⟨b, off, none⟩) l.length c) rfl (by kernel_rfl) rfl (fun _ _ _ h => h) trivial HB7.out (fun Y _ hY => by
        obtain ⟨z0, z1, -⟩ := cast2_cells ((hY.block _ (by have := HSB.out; omega)).trans HY.out)
        clear hY dk
        (try simp only [Act.put]); go_simp) ?_
      (try simp only [Act.put, List.setIfInBounds_toArray, List.set_cons_succ, List.set_cons_zero, List.getElem_toArray, List.getElem_cons_succ, List.getElem_cons_zero])
      refine mix5_take_g (v := .int .i64 k) rfl (by kernel_rfl) rfl (fun _ _ _ h => h) trivial HB7.out (fun Y _ hY => by
        (try simp only [Act.put]); go_simp) ?_
      (try simp only [Act.put, List.setIfInBounds_toArray, List.set_cons_succ, List.set_cons_zero, List.getElem_toArray, List.getElem_cons_succ, List.getElem_cons_zero])
      refine mix5_take_g (v := .slice (some ⟨b, off, none⟩) k c) rfl (by kernel_rfl) rfl (fun _ _ _ h => h) trivial HB7.out (fun Y _ hY => by
        (try simp only [Act.put]); go_simp) ?_
      (try simp only [Act.put, List.setIfInBounds_toArray, List.set_cons_succ, List.set_cons_zero, List.getElem_toArray, List.getElem_cons_succ, List.getElem_cons_zero])
      refine mix5_take_g (v := .pointer (some ⟨w.heap.size + 1, 1, none⟩)) rfl (by kernel_rfl) rfl (fun _ _ _ h => h) trivial HB7.out (fun Y _ hY => by
        (try simp only [Act.put]); go_simp) ?_
      (try simp only [Act.put, List.setIfInBounds_toArray, List.set_cons_succ, List.set_cons_zero, List.getElem_toArray, List.getElem_cons_succ, List.getElem_cons_zero])
      refine mix5_take_g (v := .slice (some ⟨b, off, none⟩) l.length c) rfl (by kernel_rfl) rfl (fun _ _ _ h => h) trivial HB7.out (fun Y _ hY => by
        obtain ⟨z0, z1, -⟩ := cast2_cells ((hY.block _ (by have := HSB.out; omega)).trans HY.out)
        clear hY dk
        (try simp only [Act.put]); go_simp) ?_
      (try simp only [Act.put, List.setIfInBounds_toArray, List.set_cons_succ, List.set_cons_zero, List.getElem_toArray, List.getElem_cons_succ, List.getElem_cons_zero])
      refine mix5_take_g (v := .int .i64 k) rfl (by kernel_rfl) rfl (fun _ _ _ h => h) trivial HB7.out (fun Y _ hY => by
        (try simp only [Act.put]); go_simp) ?_
      (try simp only [Act.put, List.setIfInBounds_toArray, List.set_cons_succ, List.set_cons_zero, List.getElem_toArray, List.getElem_cons_succ, List.getElem_cons_zero])
      refine mix5_take_g (v := .pointer (some ⟨b, off + k, none⟩)) rfl (by kernel_rfl) rfl (fun _ _ _ h => h) trivial HB7.out (fun Y _ hY => by
        (try simp only [Act.put]); go_simp) ?_
      (try simp only [Act.put, List.setIfInBounds_toArray, List.set_cons_succ, List.set_cons_zero, List.getElem_toArray, List.getElem_cons_succ, List.getElem_cons_zero])
      refine mix5_take_g (v := .string y) rfl (by kernel_rfl) rfl (fun _ _ _ h => h) trivial HB7.out (fun Y _ hY => by
        have z2 := (hY.cell (World.block_lt dk)).trans dk
        clear hY dk
        (try simp only [Act.put]); go_simp) ?_
      (try simp only [Act.put, List.setIfInBounds_toArray, List.set_cons_succ, List.set_cons_zero, List.getElem_toArray, List.getElem_cons_succ, List.getElem_cons_zero])
      (try simp only [Act.put, List.setIfInBounds_toArray, List.set_cons_succ, List.set_cons_zero, List.getElem_toArray, List.getElem_cons_succ, List.getElem_cons_zero])
      refine mix4_op_g rfl (by kernel_rfl) (fun K hK => ?_)
      have HCC := Lib.hid (HF2.out)
      go_wp2_with fail
      refine HCC.out.mono ?_; clear HCC
      rintro e y19 ⟨rfl, hw19⟩
      have HB19 := Lib.hid (Below.trans HB7.out ((show Below y7.heap.size y7 y19 by rw [hw19]; exact Below.refl _ _).mono (Below.size HB7.out)))
      refine hK _ _ ⟨⟨fun _ => trivial, HB19.out⟩, ?_⟩
      clear hK K
      subst hw19
      refine mix5_take_g (v := .bool false) rfl (by kernel_rfl) rfl (fun _ _ _ h => h) trivial HB19.out (fun Y _ hY => by
        (try simp only [Act.put]); go_simp) ?_
      (try simp only [Act.put, List.setIfInBounds_toArray, List.set_cons_succ, List.set_cons_zero, List.getElem_toArray, List.getElem_cons_succ, List.getElem_cons_zero])
      refine mix4_take (v := .bool false) rfl rfl rfl (fun _ _ _ h => h) trivial HB19.out (fun Y _ hY => by
        (try simp only [Act.put]); go_simp) ?_
      (try simp only [Act.put, List.setIfInBounds_toArray, List.set_cons_succ, List.set_cons_zero, List.getElem_toArray, List.getElem_cons_succ, List.getElem_cons_zero])
      (try simp only [Act.put, List.setIfInBounds_toArray, List.set_cons_succ, List.set_cons_zero, List.getElem_toArray, List.getElem_cons_succ, List.getElem_cons_zero])
      refine mix4_nil ?_
      have HBN := Lib.hid (HBD.out.trans (HB19.out.mono HBD.out.size))
      go_wp2_with fail
      go_roundw
      case rel => exact ⟨k + 1, by omega, by go_num, HBN⟩
      case measure => simp [intOf]; omega
    · obtain rfl : k = l.length := by omega
      clear hlt
      obtain ⟨k, rfl⟩ : ∃ k, k = k0 := ⟨_, rfl⟩
      have hck := (HB01.out.cell (p := ⟨b, off + k, none⟩) HBL.out).trans (HCL.out k hk0)
      have i3 : (0 : Int) ≤ (k : Int) := Int.natCast_nonneg _
      have hrk := HKR.out
      subst hrk
      have i2 : (k : Int) < (l.length : Int) := by omega
      have HF1 : Hid (∀ X, X.heap = wr.heap → Calls Tryd.prog 66 #[.slice Ab bad.length cb, .string l[k]] X fun e w' => e = .returned (.int .i64 (posS bad l[k])) ∧ w' = X) := Lib.hid fun X hX => find_any bad Ab cb l[k] X (P := fun _ => True) (RepN.mono (fun _ _ => trivial) (fun p _ => cell_of_heap hX) (HCW.out.below HB.out).b)
      have hpq := hasS_pos bad l[k]
      obtain ⟨z, hz⟩ : ∃ z, z = posS bad l[k] := ⟨_, rfl⟩
      rw [← hz] at HF1 hpq
      have hzq : decide (z < 0) = q := by rw [HQ.out, hpq]; by_cases h : 0 ≤ z <;> simp [h] <;> omega
      obtain ⟨y, hy⟩ : ∃ y, y = l[k] := ⟨_, rfl⟩
      rw [← hy] at HF1 hck
      clear hz hy hpq HB01 HKR
      go_wp2_with fail
      refine wp_region_mix4 (fun _ => True) (fun Y => Below wr.drew.heap.size wr.drew Y) [] (.held 0 (.held 1 (.held 2 (.held 3 (.held 4 (.held 5 (.held 6 (.held 7 (.op 8 (.held 9 (.held 10 .nil))))))))))) mixed (by kernel_rfl) ?_
      have HX : Hid (wr.drew.heap[w.heap.size]? = some (boxC ags bad Aa ca Ab cb)) := Lib.hid (by show wr.heap[_]? = _; rw [HB.out.block _ (by have := HS1.out; omega)]; exact HX1.out)
      have HY : Hid (wr.drew.heap[w.heap.size + 1]? = some (.cells #[.int .i64 k, .slice (some ⟨b, off, none⟩) l.length c] 63 (0, 0))) := Lib.hid (by show wr.heap[_]? = _; rw [HB.out.block _ (by have := HS1.out; omega)]; exact HY1.out)
      have HSB : Hid (w.heap.size + 1 < wr.drew.heap.size) := Lib.hid (by show _ < wr.heap.size; have := HB.out.size; have := HS1.out; omega)
      have dk : wr.drew.cell? ⟨b, off + k, none⟩ = some (.string y) := hck
      have HBD := Lib.hid HB.out.drew
      have HF1D := Lib.hid (HF1.out wr.drew rfl)
      clear HF1
      clear hck c0 c1 d0 d1 HB
      have HF1 := HF1D
      clear HF1D
      generalize wr.drew = D at *
      refine mix4_take (v := .pointer (some ⟨w.heap.size, 1, none⟩)) rfl rfl rfl (fun _ _ _ h => h) trivial (Below.refl D.heap.size D) (fun Y _ hY => by
        (try simp only [Act.put]); go_simp) ?_
      refine mix4_take (v := .slice Ab bad.length cb) rfl rfl rfl (fun _ _ _ h => h) trivial (Below.refl D.heap.size D) (fun Y _ hY => by
        obtain ⟨z0, z1, -⟩ := boxC_cells ((hY.block _ (by have := HSB.out; omega)).trans HX.out)
        clear hY dk
        (try simp only [Act.put]); go_simp) ?_
      refine mix4_take (v := .pointer (some ⟨w.heap.size + 1, 1, none⟩)) rfl rfl rfl (fun _ _ _ h => h) trivial (Below.refl D.heap.size D) (fun Y _ hY => by
        (try simp only [Act.put]); go_simp) ?_
      refine mix4_take (v := .slice (some ⟨b, off, none⟩) l.length c) rfl rfl rfl (fun _ _ _ h => h) trivial (Below.refl D.heap.size D) (fun Y _ hY => by
        obtain ⟨z0, z1, -⟩ := cast2_cells ((hY.block _ (by have := HSB.out; omega)).trans HY.out)
        clear hY dk
        (try simp only [Act.put]); go_simp) ?_
      (try simp only [Act.put, List.setIfInBounds_toArray, List.set_cons_succ, List.set_cons_zero, List.getElem_toArray, List.getElem_cons_succ, List.getElem_cons_zero])
      refine mix4_take (v := .pointer (some ⟨w.heap.size + 1, 0, none⟩)) rfl rfl rfl (fun _ _ _ h => h) trivial (Below.refl D.heap.size D) (fun Y _ hY => by
        (try simp only [Act.put]); go_simp) ?_
      refine mix4_take (v := .int .i64 k) rfl rfl rfl (fun _ _ _ h => h) trivial (Below.refl D.heap.size D) (fun Y _ hY => by
        obtain ⟨z0, z1, -⟩ := cast2_cells ((hY.block _ (by have := HSB.out; omega)).trans HY.out)
        clear hY dk
        (try simp only [Act.put]); go_simp) ?_
      refine mix4_take (v := .pointer (some ⟨b, off + k, none⟩)) rfl rfl rfl (fun _ _ _ h => h) trivial (Below.refl D.heap.size D) (fun Y _ hY => by
        (try simp only [Act.put]); go_simp) ?_
      refine mix4_take (v := .string y) rfl rfl rfl (fun _ _ _ h => h) trivial (Below.refl D.heap.size D) (fun Y _ hY => by
        have z2 := (hY.cell (World.block_lt dk)).trans dk
        clear hY dk
        (try simp only [Act.put]); go_simp) ?_
      (try simp only [Act.put, List.setIfInBounds_toArray, List.set_cons_succ, List.set_cons_zero, List.getElem_toArray, List.getElem_cons_succ, List.getElem_cons_zero])
      (try simp only [Act.put, List.setIfInBounds_toArray, List.set_cons_succ, List.set_cons_zero, List.getElem_toArray, List.getElem_cons_succ, List.getElem_cons_zero])
      refine mix4_op rfl rfl (fun K hK => ?_)
      have HCC := Lib.hid (HF1.out)
      go_wp2_with fail
      refine HCC.out.mono ?_; clear HCC
      rintro e y8 ⟨rfl, hw8⟩
      have HB8 := Lib.hid (Below.trans (Below.refl D.heap.size D) ((show Below D.heap.size D y8 by rw [hw8]; exact Below.refl _ _).mono (Below.size (Below.refl D.heap.size D))))
      refine hK _ _ ⟨⟨fun _ => trivial, HB8.out⟩, ?_⟩
      clear hK K
      subst hw8
      refine mix4_take (v := .bool q) rfl rfl rfl (fun _ _ _ h => h) trivial HB8.out (fun Y _ hY => by
        (try simp only [Act.put]); go_simp) ?_
      refine mix4_take (v := .bool q) rfl rfl rfl (fun _ _ _ h => h) trivial HB8.out (fun Y _ hY => by
        (try simp only [Act.put]); go_simp) ?_
      (try simp only [Act.put, List.setIfInBounds_toArray, List.set_cons_succ, List.set_cons_zero, List.getElem_toArray, List.getElem_cons_succ, List.getElem_cons_zero])
      refine mix4_nil ?_
      go_wp2_with fail
      go_ret
      exact ⟨rfl, HB0.out.trans ((HBD.out.trans (HB8.out.mono HBD.out.size)).mono HB0.out.size)⟩
end Go.Proofs.YtpjmdilpldaapaaDoor
