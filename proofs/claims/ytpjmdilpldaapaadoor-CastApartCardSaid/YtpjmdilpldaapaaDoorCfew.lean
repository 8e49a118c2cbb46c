/- The reference's Few of casts. -/
import Derived.Test.YtpjmdilpldaapaaDoorCrows
import Derived.Test.YtpjmdilpldaapaaDoorCvalid
import Derived.Test.YtpjmdilpldaapaaDoorUmix5
namespace Go.Proofs.YtpjmdilpldaapaaDoor
open Go.RowKit Go.Sort

/-- what the reference's Few answers -/
def fewC (ags bad : List ByteArray) : Bool := (ags ++ bad).all (fun x => decide (x.size ≤ 60)) && decide ((ags ++ bad).length ≤ 20)
attribute [local irreducible] wpMix4
set_option maxHeartbeats 2000000 in
set_option maxRecDepth 100000 in
theorem fewC_any (ags bad : List ByteArray) (Aa Ab : Option Addr) (ca cb : Nat) (w : World) (hc : CastW w ags bad Aa ca Ab cb) (hroom : (ags.length + bad.length) * 16 ≤ 140737488355328) :
    Calls Tryd.prog 12 #[castV ags bad Aa ca Ab cb] w fun e w' => e = .returned (.bool (fewC ags bad)) ∧ Below w.heap.size w w' := by
  have mixed : Tryd.prog.follows .mixedOrders = true := by kernel_rfl
  obtain ⟨W0, hW0⟩ : ∃ W0, W0 = w.alloc (.cells #[.slice Aa ags.length ca, .slice Ab bad.length cb] 24) := ⟨_, rfl⟩
  have hl0 : Below w.heap.size w W0 := by rw [hW0]; exact below1 (Nat.le_refl _) _
  have hx0 : W0.heap[w.heap.size]? = some (boxC ags bad Aa ca Ab cb) := by rw [hW0]; exact heap_alloc_new _ _
  have hs0 : w.heap.size < W0.heap.size := by rw [hW0]; simp
  have HC0 := Lib.hid (hc.below hl0)
  obtain ⟨b0, b1, -⟩ := boxC_cells hx0
  have HL0 := Lib.hid hl0; have HS0 := Lib.hid hs0; have HW0 := Lib.hid hW0
  clear hl0 hs0 hW0 hc hx0
  obtain ⟨R, hR⟩ : ∃ R, R = fewC ags bad := ⟨_, rfl⟩
  rw [← hR]
  have HR := Lib.hid hR; clear hR
  unfold castV
  go_enter Tryd.func12, Tryd.ntmps12
  go_wp2_with fail
  rw [← HW0.out]
  refine wp_region_mix4 (fun _ => True) (fun Y => Below W0.drew.heap.size W0.drew Y) [] (.held 1 (.held 2 (.held 4 (.held 5 (.op 0 (.op 3 (.op 6 (.held 7 .nil)))))))) mixed (by kernel_rfl) ?_
  have HBD : Hid (Below W0.heap.size W0 W0.drew) := Lib.hid ((Below.refl _ _).drew)
  have HSD : Hid (W0.drew.heap.size = W0.heap.size) := Lib.hid rfl
  have d0 : W0.drew.cell? ⟨w.heap.size, 0, none⟩ = some (.slice Aa ags.length ca) := b0
  have d1 : W0.drew.cell? ⟨w.heap.size, 1, none⟩ = some (.slice Ab bad.length cb) := b1
  have HCD := Lib.hid (HC0.out.below HBD.out)
  clear b0 b1
  generalize W0.drew = D at *
  refine mix4_take (v := .pointer (some ⟨w.heap.size, 0, none⟩)) rfl rfl rfl (fun _ _ _ h => h) trivial (Below.refl _ _) (fun Y _ hY => by (try simp only [Act.put]); go_simp) ?_
  refine mix4_take (v := .slice Aa ags.length ca) rfl rfl rfl (fun _ _ _ h => h) trivial (Below.refl _ _) (fun Y _ hY => by
    have z0 := (hY.cell (World.block_lt d0)).trans d0
    clear d0 d1 hY
    (try simp only [Act.put]); go_simp) ?_
  refine mix4_take (v := .pointer (some ⟨w.heap.size, 1, none⟩)) rfl rfl rfl (fun _ _ _ h => h) trivial (Below.refl _ _) (fun Y _ hY => by (try simp only [Act.put]); go_simp) ?_
  refine mix4_take (v := .slice Ab bad.length cb) rfl rfl rfl (fun _ _ _ h => h) trivial (Below.refl _ _) (fun Y _ hY => by
    have z1 := (hY.cell (World.block_lt d1)).trans d1
    clear d0 d1 hY
    (try simp only [Act.put]); go_simp) ?_
  (try simp only [Act.put, List.setIfInBounds_toArray, List.set_cons_succ, List.set_cons_zero, List.getElem_toArray, List.getElem_cons_succ, List.getElem_cons_zero])
  refine mix4_op rfl rfl (fun K hK => ?_)
  go_wp2_with fail
  obtain ⟨Z, hZ⟩ : ∃ Z, Z = D.alloc (.cells #[] 9) := ⟨_, rfl⟩
  have hown : Z.ownsRow D.heap.size 9 1 (.slice (some ⟨D.heap.size, 0, none⟩) 0 0) 0 [] := by
    rw [hZ]; exact World.ownsRow_made (base := D.heap.size) (e := 9) (size := 1) D #[] 0 (Nat.le_refl _) (by simp [maxLen]) rfl
  have hbZ : Below D.heap.size D Z := by rw [hZ]; exact below1 (Nat.le_refl _) _
  rw [← hZ]
  have ham := HCD.out.a.2.1
  have hal := HCD.out.a.1
  have hbm := HCD.out.b.2.1
  have hbl := HCD.out.b.1
  obtain ⟨v1, w1, hap1, ho1, hg1⟩ := row_addV slStr hown hbZ.size (RepN.toV (RepN.mono (P' := fun b => b < D.heap.size) (w' := Z) (fun b h => h) (fun p hp => hbZ.cell hp) HCD.out.a)) (strs_one ags) (by omega) (by omega)
  have hb1 := hbZ.trans hg1.below
  obtain ⟨v2, w2, hap2, ho2, hg2⟩ := row_addV slStr ho1 hb1.size (RepN.toV (RepN.mono (P' := fun b => b < D.heap.size) (w' := w1) (fun b h => h) (fun p hp => hb1.cell hp) HCD.out.b)) (strs_one bad) (by unfold maxLen; omega) (by omega)
  have hb2 := hb1.trans hg2.below
  have hvs : (0 + ags.length + bad.length) = (ags ++ bad).length := by rw [List.length_append]; omega
  rw [List.nil_append, hvs] at ho2
  rw [show strs ags ++ strs bad = strs (ags ++ bad) by simp [strs]] at ho2
  obtain ⟨A2, c2, hv2, hrep2⟩ := repV_own ho2
  subst hv2
  have hrn := ((hrep2 (fun b => b < w2.heap.size) (fun b _ h _ => h)).toN (fun x hx => by
    rcases List.mem_append.1 hx with h | h
    · exact HCD.out.a.2.2.1 x h
    · exact HCD.out.b.2.2.1 x h)).2
  have HBZ := Lib.hid hbZ; have HB1 := Lib.hid hb1; have HB2 := Lib.hid hb2; have HRN := Lib.hid hrn
  have HAP1 := Lib.hid hap1; have HAP2 := Lib.hid hap2
  have hroom2 : (ags ++ bad).length ≤ 9000000000000 := by rw [List.length_append]; omega
  clear hZ hown hbZ hap1 hap2 ho1 ho2 hg1 hg2 hb1 hb2 hvs hrep2 hrn ham hal hbm hbl
  refine ⟨⟨fun _ => trivial, HBZ.out⟩, ?_⟩
  (try simp only [Act.put, List.setIfInBounds_toArray, List.set_cons_succ, List.set_cons_zero, List.getElem_toArray, List.getElem_cons_succ, List.getElem_cons_zero])
  refine mix4_op rfl rfl (fun K hK => ?_)
  refine wp_run_append (.tmp 5) (.tmp 7) (by rfl) (by rfl) (by rfl) HAP1.out ?_
  refine hK _ _ ⟨⟨fun _ => trivial, HB1.out⟩, ?_⟩
  clear hK K
  (try simp only [Act.put, List.setIfInBounds_toArray, List.set_cons_succ, List.set_cons_zero, List.getElem_toArray, List.getElem_cons_succ, List.getElem_cons_zero])
  refine mix4_op rfl rfl (fun K hK => ?_)
  refine wp_run_append (.tmp 8) (.tmp 10) (by rfl) (by rfl) (by rfl) HAP2.out ?_
  refine hK _ _ ⟨⟨fun _ => trivial, HB2.out⟩, ?_⟩
  clear hK K HAP1 HAP2
  (try simp only [Act.put, List.setIfInBounds_toArray, List.set_cons_succ, List.set_cons_zero, List.getElem_toArray, List.getElem_cons_succ, List.getElem_cons_zero])
  obtain ⟨l, hl⟩ : ∃ l, l = ags ++ bad := ⟨_, rfl⟩
  have HR2 : Hid (R = (l.all (fun x => decide (x.size ≤ 60)) && decide (l.length ≤ 20))) := by show _ = _; rw [HR.out, fewC, hl]
  rw [← hl] at HRN hroom2 ⊢
  clear hl HR
  refine mix4_take (v := .slice A2 l.length c2) rfl rfl rfl (fun _ _ _ h => h) trivial HB2.out (fun Y _ hY => by (try simp only [Act.put]); go_simp) ?_
  (try simp only [Act.put, List.setIfInBounds_toArray, List.set_cons_succ, List.set_cons_zero, List.getElem_toArray, List.getElem_cons_succ, List.getElem_cons_zero])
  refine mix4_nil ?_
  clear d0 d1
  go_wp2_with fail
  go_loop [4] (fun i => ∃ k : Nat, k ≤ l.length ∧ i = .int .i64 k ∧ Hid (l.all (fun x => decide (x.size ≤ 60)) = (l.drop k).all (fun x => decide (x.size ≤ 60)))) (fun i => l.length - (intOf i).toNat)
  case atStart => exact ⟨0, Nat.zero_le _, rfl, rfl⟩
  case round =>
    obtain ⟨k, hk, rfl, HK⟩ := hrel
    have i1 : (0 : Int) ≤ (k : Int) := Int.natCast_nonneg _
    have HBF := Lib.hid (HL0.out.trans ((HBD.out.trans (HB2.out.mono (Nat.le_of_eq HSD.out.symm))).mono (Nat.le_of_lt HS0.out)))
    by_cases hlt : k < l.length
    · have i2 : (k : Int) < (l.length : Int) := by omega
      obtain ⟨b, off, hA, -, hcl⟩ := HRN.out.cells (by intro h; rw [h] at hlt; simp at hlt)
      subst hA
      have hck := hcl k hlt
      have hst : l.all (fun x => decide (x.size ≤ 60)) = (decide (l[k].size ≤ 60) && (l.drop (k + 1)).all (fun x => decide (x.size ≤ 60))) := by
        rw [HK.out, List.drop_eq_getElem_cons hlt, List.all_cons]
      obtain ⟨y, hy⟩ : ∃ y, y = l[k] := ⟨_, rfl⟩
      rw [← hy] at hck hst
      clear hcl hy
      by_cases h60 : y.size ≤ 60
      · have hd : ¬ (60 : Int) < (y.size : Int) := by omega
        have HN : Hid (l.all (fun x => decide (x.size ≤ 60)) = (l.drop (k + 1)).all (fun x => decide (x.size ≤ 60))) := by show _ = _; rw [hst, decide_eq_true h60, Bool.true_and]
        clear hst HK
        go_wp2_with fail
        go_round
        case rel => exact ⟨k + 1, by omega, by go_num, HN.out⟩
        case measure => simp [intOf]; omega
      · have hd : (60 : Int) < (y.size : Int) := by omega
        have hRe : R = false := by rw [HR2.out, hst, decide_eq_false h60]; rfl
        subst hRe
        clear hst HK HR2
        go_wp2_with fail
        go_ret
        exact ⟨rfl, HBF.out⟩
    · obtain rfl : k = l.length := by omega
      have hRe : R = decide (l.length ≤ 20) := by rw [HR2.out, HK.out, List.drop_length]; rfl
      have HRE := Lib.hid hRe
      clear HK HR2 hRe
      by_cases h20 : l.length ≤ 20
      · have hd : ((l.length : Int) ≤ 20) := by omega
        go_wp2_with fail
        go_ret
        exact ⟨by rw [HRE.out]; simp [h20], HBF.out⟩
      · have hd : ¬ ((l.length : Int) ≤ 20) := by omega
        go_wp2_with fail
        go_ret
        exact ⟨by rw [HRE.out]; simp [h20], HBF.out⟩
end Go.Proofs.YtpjmdilpldaapaaDoor
