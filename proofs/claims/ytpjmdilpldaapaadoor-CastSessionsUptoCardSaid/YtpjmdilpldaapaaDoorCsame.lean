/- The reference's Same and SameCast, of equal values. -/
import Derived.Test.YtpjmdilpldaapaaDoorCrev0
import Derived.Test.YtpjmdilpldaapaaDoorUmix5
namespace Go.Proofs.YtpjmdilpldaapaaDoor
open Go.RowKit Go.Sort

attribute [local irreducible] wpMix4
set_option linter.unusedSimpArgs false in
set_option maxHeartbeats 4000000 in
set_option maxRecDepth 100000 in
theorem same_sess (r : Int) (l : List ByteArray) (A A' : Option Addr) (c c' : Nat) (w : World) (h : RepN w (fun b => b < w.heap.size) l A c) (h' : RepN w (fun b => b < w.heap.size) l A' c') (hlen : l.length ≤ 1000000) :
    Calls Tryd.prog 49 #[.agg #[.int .i64 r, .slice A l.length c], .agg #[.int .i64 r, .slice A' l.length c']] w fun e w' => e = .returned (.bool true) ∧ Below w.heap.size w w' := by
  have mixed : Tryd.prog.follows .mixedOrders = true := by kernel_rfl
  obtain ⟨W0, hW0⟩ : ∃ W0, W0 = w.alloc (.cells #[.int .i64 r, .slice A l.length c] 63) := ⟨_, rfl⟩
  have hl0 : Below w.heap.size w W0 := by rw [hW0]; exact below1 (Nat.le_refl _) _
  have hx0 : W0.heap[w.heap.size]? = some (.cells #[.int .i64 r, .slice A l.length c] 63 (0, 0)) := by rw [hW0]; exact heap_alloc_new _ _
  have s0 : W0.heap.size = w.heap.size + 1 := by rw [hW0]; simp
  obtain ⟨W1, hW1⟩ : ∃ W1, W1 = W0.alloc (.cells #[.int .i64 r, .slice A' l.length c'] 63) := ⟨_, rfl⟩
  have hl1 : Below W0.heap.size W0 W1 := by rw [hW1]; exact below1 (Nat.le_refl _) _
  have hy1 : W1.heap[w.heap.size + 1]? = some (.cells #[.int .i64 r, .slice A' l.length c'] 63 (0, 0)) := by rw [hW1, ← s0]; exact heap_alloc_new _ _
  have hx1 := (hl1.block w.heap.size (by omega)).trans hx0
  have s1 : W1.heap.size = w.heap.size + 2 := by rw [hW1]; simp [s0]
  have hl01 : Below w.heap.size w W1 := hl0.trans (hl1.mono (by omega))
  have HB0 := Lib.hid hl01; have HS1 := Lib.hid s1; have HX := Lib.hid hx1; have HY := Lib.hid hy1
  have HR := Lib.hid h; have HR' := Lib.hid h'
  rw [hW0] at hW1
  have HW1 := Lib.hid hW1
  have hrr : (r != r) = false := bne_self_eq_false r
  have hll : ((l.length : Int) != (l.length : Int)) = false := bne_self_eq_false _
  obtain ⟨c0, c1, -⟩ := cast2_cells hx1
  obtain ⟨d0, d1, -⟩ := cast2_cells hy1
  have hc := h.1
  have hc' := h'.1
  rw [hW1] at c0 c1 d0 d1
  clear hl0 hx0 s0 hl1 hy1 hx1 s1 hl01 hW0 hW1 h h'
  go_enter Tryd.func49, Tryd.ntmps49
  go_wp2_with fail
  rw [← HW1.out]
  clear c0 c1 d0 d1
  go_loopw [5] (fun i wr => ∃ k : Nat, k ≤ l.length ∧ i = .int .i64 k ∧ Hid (Below W1.heap.size W1 wr)) (fun i _ => l.length - (intOf i).toNat)
  case atStart => exact ⟨0, Nat.zero_le _, rfl, Below.refl _ _⟩
  case round =>
    obtain ⟨k, hk, rfl, HB⟩ := hrel
    have i1 : (0 : Int) ≤ (k : Int) := Int.natCast_nonneg _
    have hx2 : wr.heap[w.heap.size]? = some (.cells #[.int .i64 r, .slice A l.length c] 63 (0, 0)) := by rw [HB.out.block _ (by have := HS1.out; omega)]; exact HX.out
    have hy2 : wr.heap[w.heap.size + 1]? = some (.cells #[.int .i64 r, .slice A' l.length c'] 63 (0, 0)) := by rw [HB.out.block _ (by have := HS1.out; omega)]; exact HY.out
    obtain ⟨c0, c1, -⟩ := cast2_cells hx2
    obtain ⟨d0, d1, -⟩ := cast2_cells hy2
    clear hx2 hy2
    by_cases hlt : k < l.length
    · have i2 : (k : Int) < (l.length : Int) := by omega
      obtain ⟨b, off, hA, hbl, hcl⟩ := HR.out.cells (by intro h; rw [h] at hlt; simp at hlt)
      obtain ⟨b', off', hA', hbl', hcl'⟩ := HR'.out.cells (by intro h; rw [h] at hlt; simp at hlt)
      subst hA hA'
      have HB01 : Hid (Below w.heap.size w wr) := Lib.hid (HB0.out.trans (HB.out.mono HB0.out.size))
      have hck := (HB01.out.cell (p := ⟨b, off + k, none⟩) hbl).trans (hcl k hlt)
      have hck2 := (HB01.out.cell (p := ⟨b', off' + k, none⟩) hbl').trans (hcl' k hlt)
      obtain ⟨y, hy⟩ : ∃ y, y = l[k] := ⟨_, rfl⟩
      rw [← hy] at hck hck2
      have hyy : (y.toList == y.toList) = true := beq_self_eq_true _
      have hyn : (y.toList != y.toList) = false := bne_self_eq_false _
      clear hcl hcl' hy hbl hbl' HB01
      go_wp2_with fail
      refine wp_region_mix4 (fun _ => True) (fun Y => Below wr.drew.heap.size wr.drew Y) [] (.held 0 (.held 1 (.held 2 (.held 3 (.held 4 (.held 5 (.held 6 (.held 7 (.held 8 (.held 9 (.held 10 .nil))))))))))) mixed (by kernel_rfl) ?_
      have dk : wr.drew.cell? ⟨b, off + k, none⟩ = some (.string y) := hck
      have dk2 : wr.drew.cell? ⟨b', off' + k, none⟩ = some (.string y) := hck2
      have HB2 := Lib.hid (HB.out.drew)
      have HSD : Hid (w.heap.size + 1 < wr.drew.heap.size) := Lib.hid (by show _ < wr.heap.size; have := HB.out.size; have := HS1.out; omega)
      have H2 : Hid (wr.drew.heap[w.heap.size]? = some (.cells #[.int .i64 r, .slice (some ⟨b, off, none⟩) l.length c] 63 (0, 0))) := Lib.hid (by show wr.heap[_]? = _; rw [HB.out.block _ (by have := HS1.out; omega)]; exact HX.out)
      have H3 : Hid (wr.drew.heap[w.heap.size + 1]? = some (.cells #[.int .i64 r, .slice (some ⟨b', off', none⟩) l.length c'] 63 (0, 0))) := Lib.hid (by show wr.heap[_]? = _; rw [HB.out.block _ (by have := HS1.out; omega)]; exact HY.out)
      clear hck hck2 c0 c1 d0 d1
      generalize wr.drew = D at *
      refine mix4_take (v := .pointer (some ⟨w.heap.size, 1, none⟩)) rfl rfl rfl (fun _ _ _ h => h) trivial (Below.refl _ _) (fun Y _ hY => by
        (try simp only [Act.put]); go_simp) ?_
      refine mix4_take (v := .slice (some ⟨b, off, none⟩) l.length c) rfl rfl rfl (fun _ _ _ h => h) trivial (Below.refl _ _) (fun Y _ hY => by
        obtain ⟨z0, z1, -⟩ := cast2_cells ((hY.block _ (by have := HSD.out; omega)).trans H2.out)
        clear hY dk dk2
        (try simp only [Act.put]); go_simp) ?_
      refine mix4_take (v := .int .i64 k) rfl rfl rfl (fun _ _ _ h => h) trivial (Below.refl _ _) (fun Y _ hY => by
        (try simp only [Act.put]); go_simp) ?_
      refine mix4_take (v := .pointer (some ⟨b, off + k, none⟩)) rfl rfl rfl (fun _ _ _ h => h) trivial (Below.refl _ _) (fun Y _ hY => by
        (try simp only [Act.put]); go_simp) ?_
      (try simp only [Act.put, List.setIfInBounds_toArray, List.set_cons_succ, List.set_cons_zero, List.getElem_toArray, List.getElem_cons_succ, List.getElem_cons_zero])
      refine mix4_take (v := .string y) rfl rfl rfl (fun _ _ _ h => h) trivial (Below.refl _ _) (fun Y _ hY => by
        have z2 := (hY.cell (World.block_lt dk)).trans dk
        clear hY dk dk2
        (try simp only [Act.put]); go_simp) ?_
      (try simp only [Act.put, List.setIfInBounds_toArray, List.set_cons_succ, List.set_cons_zero, List.getElem_toArray, List.getElem_cons_succ, List.getElem_cons_zero])
      refine mix4_take (v := .pointer (some ⟨w.heap.size + 1, 1, none⟩)) rfl rfl rfl (fun _ _ _ h => h) trivial (Below.refl _ _) (fun Y _ hY => by
        (try simp only [Act.put]); go_simp) ?_
      refine mix4_take (v := (.slice (some ⟨b', off', none⟩) l.length c')) rfl rfl rfl (fun _ _ _ h => h) trivial (Below.refl _ _) (fun Y _ hY => by
        obtain ⟨z0, z1, -⟩ := cast2_cells ((hY.block _ (by have := HSD.out; omega)).trans H3.out)
        clear hY dk dk2
        (try simp only [Act.put]); go_simp) ?_
      (try simp only [Act.put, List.setIfInBounds_toArray, List.set_cons_succ, List.set_cons_zero, List.getElem_toArray, List.getElem_cons_succ, List.getElem_cons_zero])
      refine mix4_take (v := .int .i64 k) rfl rfl rfl (fun _ _ _ h => h) trivial (Below.refl _ _) (fun Y _ hY => by
        (try simp only [Act.put]); go_simp) ?_
      refine mix4_take (v := (.pointer (some ⟨b', off' + k, none⟩))) rfl rfl rfl (fun _ _ _ h => h) trivial (Below.refl _ _) (fun Y _ hY => by
        (try simp only [Act.put]); go_simp) ?_
      (try simp only [Act.put, List.setIfInBounds_toArray, List.set_cons_succ, List.set_cons_zero, List.getElem_toArray, List.getElem_cons_succ, List.getElem_cons_zero])
      refine mix4_take (v := .string y) rfl rfl rfl (fun _ _ _ h => h) trivial (Below.refl _ _) (fun Y _ hY => by
        have z2 := (hY.cell (World.block_lt dk2)).trans dk2
        clear hY dk dk2
        (try simp only [Act.put]); go_simp) ?_
      (try simp only [Act.put, List.setIfInBounds_toArray, List.set_cons_succ, List.set_cons_zero, List.getElem_toArray, List.getElem_cons_succ, List.getElem_cons_zero])
      refine mix4_take (v := .bool false) rfl rfl rfl (fun _ _ _ h => h) trivial (Below.refl _ _) (fun Y _ hY => by
        (try simp only [Act.put]); go_simp) ?_
      (try simp only [Act.put, List.setIfInBounds_toArray, List.set_cons_succ, List.set_cons_zero, List.getElem_toArray, List.getElem_cons_succ, List.getElem_cons_zero])
      refine mix4_nil ?_
      go_wp2_with fail
      go_roundw
      case rel => exact ⟨k + 1, by omega, by go_num, HB2.out⟩
      case measure => simp [intOf]; omega
    · obtain rfl : k = l.length := by omega
      go_wp2_with fail
      go_ret
      exact ⟨rfl, HB0.out.trans (HB.out.mono HB0.out.size)⟩
set_option linter.unusedSimpArgs false in
set_option maxHeartbeats 4000000 in
set_option maxRecDepth 100000 in
theorem same_cast (ags bad : List ByteArray) (Aa Ab : Option Addr) (ca cb : Nat) (Ba Bb : Option Addr) (da db : Nat) (w : World) (hc : CastW w ags bad Aa ca Ab cb) (hd : CastW w ags bad Ba da Bb db) (h1 : ags.length ≤ 1000000) (h2 : bad.length ≤ 1000000) :
    Calls Tryd.prog 36 #[castV ags bad Aa ca Ab cb, castV ags bad Ba da Bb db] w fun e w' => e = .returned (.bool true) ∧ Below w.heap.size w w' := by
  obtain ⟨W0, hW0⟩ : ∃ W0, W0 = w.alloc (.cells #[.slice Aa ags.length ca, .slice Ab bad.length cb] 24) := ⟨_, rfl⟩
  have hl0 : Below w.heap.size w W0 := by rw [hW0]; exact below1 (Nat.le_refl _) _
  have hx0 : W0.heap[w.heap.size]? = some (boxC ags bad Aa ca Ab cb) := by rw [hW0]; exact heap_alloc_new _ _
  have s0 : W0.heap.size = w.heap.size + 1 := by rw [hW0]; simp
  obtain ⟨W1, hW1⟩ : ∃ W1, W1 = W0.alloc (.cells #[.slice Ba ags.length da, .slice Bb bad.length db] 24) := ⟨_, rfl⟩
  have hl1 : Below W0.heap.size W0 W1 := by rw [hW1]; exact below1 (Nat.le_refl _) _
  have hy1 : W1.heap[w.heap.size + 1]? = some (boxC ags bad Ba da Bb db) := by rw [hW1, ← s0]; exact heap_alloc_new _ _
  have hx1 := (hl1.block w.heap.size (by omega)).trans hx0
  have s1 : W1.heap.size = w.heap.size + 2 := by rw [hW1]; simp [s0]
  have hl01 : Below w.heap.size w W1 := hl0.trans (hl1.mono (by omega))
  have HB0 := Lib.hid hl01; have HS1 := Lib.hid s1; have HX := Lib.hid hx1; have HY := Lib.hid hy1
  have HC := Lib.hid (hc.below hl01); have HD := Lib.hid (hd.below hl01)
  obtain ⟨c0, c1, -⟩ := boxC_cells hx1
  obtain ⟨d0, d1, -⟩ := boxC_cells hy1
  rw [hW0] at hW1
  rw [hW1] at c0 c1 d0 d1
  have HW1 := Lib.hid hW1
  have HE1 := Lib.hid (same_sess 0 ags Aa Ba ca da W1 HC.out.a HD.out.a h1)
  clear hl0 hx0 s0 hl1 hy1 hx1 s1 hl01 hW0 hW1 hc hd
  unfold castV
  go_enter Tryd.func36, Tryd.ntmps36
  go_wp2_with fail
  rw [← HW1.out]
  refine HE1.out.mono ?_; clear HE1
  rintro e w2 ⟨rfl, hb2⟩
  have hx2 := (hb2.block w.heap.size (by have := HS1.out; omega)).trans HX.out
  have hy2 := (hb2.block (w.heap.size + 1) (by have := HS1.out; omega)).trans HY.out
  have HE2 := Lib.hid (same_sess 0 bad Ab Bb cb db w2 (HC.out.below hb2).b (HD.out.below hb2).b h2)
  have HB2 := Lib.hid (HB0.out.trans (hb2.mono HB0.out.size))
  clear c0 c1 d0 d1 hb2
  obtain ⟨c0, c1, -⟩ := boxC_cells hx2
  obtain ⟨d0, d1, -⟩ := boxC_cells hy2
  clear hx2 hy2
  go_wp2_with fail
  refine HE2.out.mono ?_; clear HE2
  rintro e w3 ⟨rfl, hb3⟩
  go_wp2_with fail
  go_ret
  exact ⟨rfl, HB2.out.trans (hb3.mono HB2.out.size)⟩
end Go.Proofs.YtpjmdilpldaapaaDoor
