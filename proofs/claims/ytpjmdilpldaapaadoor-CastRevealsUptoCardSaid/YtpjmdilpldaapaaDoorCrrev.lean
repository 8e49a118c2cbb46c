/- The reference's Reveal. -/
import Derived.Test.YtpjmdilpldaapaaDoorCrev0
import Derived.Test.YtpjmdilpldaapaaDoorCrvalid
import Derived.Test.YtpjmdilpldaapaaDoorUmix5
namespace Go.Proofs.YtpjmdilpldaapaaDoor
open Go.RowKit Go.Sort

theorem RepN.fwdN {w w' : World} {l : List ByteArray} {A : Option Addr} {cap : Nat} (h : RepN w (fun b => b < w.heap.size) l A cap) (hb : Below w.heap.size w w') : RepN w' (fun b => b < w'.heap.size) l A cap :=
  h.go hb hb.size
attribute [local irreducible] wpMix4
set_option linter.unusedSimpArgs false in
set_option maxHeartbeats 4000000 in
set_option maxRecDepth 100000 in
theorem rrev_any (ags bad : List ByteArray) (Aa Ab : Option Addr) (ca cb : Nat) (x : ByteArray) (w : World) (hc : CastW w ags bad Aa ca Ab cb) :
    Calls Tryd.prog 35 #[castV ags bad Aa ca Ab cb, .string x] w (RevOf w (revEr ags bad x) (revA ags bad x) (revB ags bad x)) := by
  have mixed : Tryd.prog.follows .mixedOrders = true := by kernel_rfl
  obtain ⟨W0, hW0⟩ : ∃ W0, W0 = w.alloc (.cells #[.slice Aa ags.length ca, .slice Ab bad.length cb] 24) := ⟨_, rfl⟩
  have hl0 : Below w.heap.size w W0 := by rw [hW0]; exact below1 (Nat.le_refl _) _
  have hx0 : W0.heap[w.heap.size]? = some (boxC ags bad Aa ca Ab cb) := by rw [hW0]; exact heap_alloc_new _ _
  have s0 : W0.heap.size = w.heap.size + 1 := by rw [hW0]; simp
  obtain ⟨W1, hW1⟩ : ∃ W1, W1 = W0.alloc (.cells #[.slice none 0 0, .slice none 0 0] 24) := ⟨_, rfl⟩
  have hl1 : Below W0.heap.size W0 W1 := by rw [hW1]; exact below1 (Nat.le_refl _) _
  have hy1 : W1.heap[w.heap.size + 1]? = some (.cells #[.slice none 0 0, .slice none 0 0] 24 (0, 0)) := by rw [hW1, ← s0]; exact heap_alloc_new _ _
  have hx1 : W1.heap[w.heap.size]? = some (boxC ags bad Aa ca Ab cb) := by rw [hl1.block _ (by omega)]; exact hx0
  have s1 : W1.heap.size = w.heap.size + 2 := by rw [hW1]; simp [s0]
  have hl01 : Below w.heap.size w W1 := hl0.trans (hl1.mono (by omega))
  have HC1 := Lib.hid (hc.below hl01)
  have HV := Lib.hid (rcvalid_any ags bad Aa Ab ca cb W1 HC1.out)
  have HL1 := Lib.hid hl01; have HS1 := Lib.hid s1; have HX1 := Lib.hid hx1; have HY1 := Lib.hid hy1
  rw [hW0] at hW1
  have HW1 := Lib.hid hW1
  have HG : Hid (castE ags bad = 0 → Good ags bad) := Lib.hid fun h => good_of h
  obtain ⟨R, hR⟩ : ∃ R, R = revEr ags bad x := ⟨_, rfl⟩
  obtain ⟨ra, hra⟩ : ∃ ra, ra = revA ags bad x := ⟨_, rfl⟩
  obtain ⟨rb, hrb⟩ : ∃ rb, rb = revB ags bad x := ⟨_, rfl⟩
  rw [← hR, ← hra, ← hrb]
  unfold revA at hra
  unfold revB at hrb
  rw [← hR] at hra hrb
  unfold revEr at hR
  obtain ⟨E, hE⟩ : ∃ E, E = castE ags bad := ⟨_, rfl⟩
  rw [← hE] at HV HG hR
  have HR := Lib.hid hR; have HRA := Lib.hid hra; have HRB := Lib.hid hrb
  clear hl0 hx0 s0 hl1 hy1 hx1 s1 hl01 hW0 hW1 hc hE hR hra hrb
  unfold castV at HV ⊢
  go_enter Tryd.func35, Tryd.ntmps35
  have hb1 := HX1.out
  obtain ⟨b0, b1, -⟩ := boxC_cells hb1
  clear hb1
  go_wp2_with fail
  rw [← HW1.out]
  refine HV.out.mono ?_
  rintro e w2 ⟨rfl, hl2⟩
  have HX2 : Hid (w2.heap[w.heap.size]? = some (boxC ags bad Aa ca Ab cb)) := Lib.hid (by rw [hl2.below.block _ (by have := HS1.out; omega)]; exact HX1.out)
  have HY2 : Hid (w2.heap[w.heap.size + 1]? = some (.cells #[.slice none 0 0, .slice none 0 0] 24 (0, 0))) := Lib.hid (by rw [hl2.below.block _ (by have := HS1.out; omega)]; exact HY1.out)
  have HB2 := Lib.hid (HL1.out.trans (hl2.below.mono (by have := HS1.out; omega)))
  have HC2 := Lib.hid (HC1.out.below hl2.below)
  have HS2 : Hid (w.heap.size + 2 ≤ w2.heap.size) := Lib.hid (by have := HS1.out; have := hl2.size; omega)
  clear hl2 b0 b1 HV HL1 HS1 HX1 HY1 HW1 HC1
  obtain ⟨c0, c1, -⟩ := boxC_cells HX2.out
  obtain ⟨d0, d1, df⟩ := cast2_cells HY2.out
  obtain ⟨z1, hz1⟩ : ∃ z, z = posS ags x := ⟨_, rfl⟩
  obtain ⟨z2, hz2⟩ : ∃ z, z = posS bad x := ⟨_, rfl⟩
  have HZ1 : Hid (hasS ags x = decide (0 ≤ z1)) := Lib.hid (by rw [hasS_pos, hz1])
  have HZ2 : Hid (hasS bad x = decide (0 ≤ z2)) := Lib.hid (by rw [hasS_pos, hz2])
  have HF1 := Lib.hid (find_any ags Aa ca x w2 HC2.out.a)
  have HF2 := Lib.hid (find_any bad Ab cb x w2 HC2.out.b)
  rw [← hz1] at HF1
  rw [← hz2] at HF2
  clear hz1 hz2
  by_cases h0 : E = 0
  · subst h0
    have HGD := Lib.hid (HG.out rfl)
    clear HG
    cases hq : hasS ags x with
    | false =>
      have hz : ¬ (0 : Int) ≤ z1 := by have := HZ1.out; rw [hq] at this; exact of_decide_eq_false this.symm
      have hzl : z1 < 0 := by omega
      have hzd : decide (z1 < 0) = true := decide_eq_true hzl
      have hzg : decide (0 ≤ z1) = false := decide_eq_false hz
      have hRR : R = 4 := by rw [HR.out, if_pos rfl, hq]; rfl
      subst hRR
      have hraa : ra = [] := by rw [HRA.out, if_neg (by decide)]
      have hrbb : rb = [] := by rw [HRB.out, if_neg (by decide)]
      subst hraa hrbb
      clear hq HR HRA HRB
      go_wp2_with fail
      refine HF1.out.mono ?_; clear HF1
      rintro e w3 ⟨rfl, hw⟩
      subst hw
      go_wp2_with fail
      refine bodyPost_ret (v := .tuple #[.agg #[.slice none 0 0, .slice none 0 0], .int .i64 4]) ?_ rfl ?_
      · simp [results, Tryd.results35, go_sem, d0, d1, df]
      exact ⟨none, 0, none, 0, rfl, ⟨RepN.nil, RepN.nil⟩, (HB2.out.setCell (Nat.le_succ w.heap.size) _).setCell (Nat.le_succ w.heap.size) _⟩
    | true =>
      cases hq2 : hasS bad x with
      | true =>
        have hza : (0 : Int) ≤ z1 := by have := HZ1.out; rw [hq] at this; exact of_decide_eq_true this.symm
        have hzla : ¬ z1 < 0 := by omega
        have hzda : decide (z1 < 0) = false := decide_eq_false hzla
        have hzga : decide (0 ≤ z1) = true := decide_eq_true hza
        have hzb : (0 : Int) ≤ z2 := by have := HZ2.out; rw [hq2] at this; exact of_decide_eq_true this.symm
        have hzlb : ¬ z2 < 0 := by omega
        have hzdb : decide (z2 < 0) = false := decide_eq_false hzlb
        have hzgb : decide (0 ≤ z2) = true := decide_eq_true hzb
        have hRR : R = 5 := by rw [HR.out, if_pos rfl, hq, hq2]; rfl
        subst hRR
        have hraa : ra = [] := by rw [HRA.out, if_neg (by decide)]
        have hrbb : rb = [] := by rw [HRB.out, if_neg (by decide)]
        subst hraa hrbb
        clear hq hq2 HR HRA HRB
        go_wp2_with fail
        refine HF1.out.mono ?_; clear HF1
        rintro e w3 ⟨rfl, hw⟩
        subst hw
        go_wp2_with fail
        refine HF2.out.mono ?_; clear HF2
        rintro e w4 ⟨rfl, hw⟩
        subst hw
        go_wp2_with fail
        refine bodyPost_ret (v := .tuple #[.agg #[.slice none 0 0, .slice none 0 0], .int .i64 5]) ?_ rfl ?_
        · simp [results, Tryd.results35, go_sem, d0, d1, df]
        exact ⟨none, 0, none, 0, rfl, ⟨RepN.nil, RepN.nil⟩, (HB2.out.setCell (Nat.le_succ w.heap.size) _).setCell (Nat.le_succ w.heap.size) _⟩
      | false =>
        have hza : (0 : Int) ≤ z1 := by have := HZ1.out; rw [hq] at this; exact of_decide_eq_true this.symm
        have hzla : ¬ z1 < 0 := by omega
        have hzda : decide (z1 < 0) = false := decide_eq_false hzla
        have hzga : decide (0 ≤ z1) = true := decide_eq_true hza
        have hz : ¬ (0 : Int) ≤ z2 := by have := HZ2.out; rw [hq2] at this; exact of_decide_eq_false this.symm
        have hzl : z2 < 0 := by omega
        have hzd : decide (z2 < 0) = true := decide_eq_true hzl
        have hzg : decide (0 ≤ z2) = false := decide_eq_false hz
        have hRR : R = 0 := by rw [HR.out, if_pos rfl, hq, hq2]; rfl
        subst hRR
        have hraa : ra = ags := by rw [HRA.out, if_pos rfl]
        have hrbb : rb = revC ags bad x := by rw [HRB.out, if_pos rfl]
        subst hraa
        have HRB2 := Lib.hid hrbb
        have HGD6 := Lib.hid HGD.out.six
        obtain ⟨Z5, hZ5⟩ : ∃ Z, Z = w2.alloc (.cells #[] 9) := ⟨_, rfl⟩
        have hown5 : Z5.ownsRow w2.heap.size 9 1 (.slice (some ⟨w2.heap.size, 0, none⟩) 0 0) 0 [] := by
          rw [hZ5]; exact World.ownsRow_made (base := w2.heap.size) (e := 9) (size := 1) w2 #[] 0 (Nat.le_refl _) (by simp [maxLen]) rfl
        have hbZ5 : Below w2.heap.size w2 Z5 := by rw [hZ5]; exact below1 (Nat.le_refl _) _
        obtain ⟨v5, w5, hap5, ho5, hg5⟩ := row_addV slStr hown5 hbZ5.size (HC2.out.a.fwdN hbZ5).toV (strs_one _) (by have := HGD6.out; unfold maxLen; omega) (by have := HGD6.out; omega)
        have hxz := (hbZ5.block w.heap.size (by have := HS2.out; omega)).trans HX2.out
        rw [hZ5] at hap5 hxz
        obtain ⟨q0, q1, -⟩ := boxC_cells hxz
        have hb5 : Below w2.heap.size w2 w5 := hbZ5.trans hg5.below
        rw [Nat.zero_add] at ho5
        clear hown5 hbZ5 hg5 hZ5 hxz
        clear hq hq2 HR HRA HRB hrbb
        go_wp2_with fail
        refine HF1.out.mono ?_; clear HF1
        rintro e w3 ⟨rfl, hw⟩
        subst hw
        go_wp2_with fail
        refine HF2.out.mono ?_; clear HF2
        rintro e w4 ⟨rfl, hw⟩
        subst hw
        obtain ⟨A3, c3, rfl, hrep3⟩ := repV_own ho5
        have HN3 : Hid (RepN w5 (fun b => w.heap.size + 2 ≤ b ∧ b < w5.heap.size) ra A3 c3) := Lib.hid ((hrep3 (fun b => w.heap.size + 2 ≤ b ∧ b < w5.heap.size) (fun b h1 h2 _ => ⟨by have := HS2.out; omega, h2⟩)).toN (fun y hy => HC2.out.a.2.2.1 y hy)).2
        have HX5 : Hid (w5.heap[w.heap.size]? = some (boxC ra bad Aa ca Ab cb)) := Lib.hid (by rw [hb5.block _ (by have := HS2.out; omega)]; exact HX2.out)
        have HY5 : Hid (w5.heap[w.heap.size + 1]? = some (.cells #[.slice none 0 0, .slice none 0 0] 24 (0, 0))) := Lib.hid (by rw [hb5.block _ (by have := HS2.out; omega)]; exact HY2.out)
        have HB5 := Lib.hid (below_then HB2.out hb5 HB2.out.size)
        have HC5 := Lib.hid (HC2.out.below hb5)
        have HS5 : Hid (w.heap.size + 2 ≤ w5.heap.size) := Lib.hid (Nat.le_trans HS2.out hb5.size)
        clear ho5 hb5 hrep3 c0 c1 d0 d1 df HY2 HB2 HC2 HS2
        obtain ⟨c0, c1, -⟩ := boxC_cells HX5.out
        obtain ⟨W6, hW6⟩ : ∃ W6, W6 = w5.alloc (.cells #[.slice A3 ra.length c3, .slice none 0 0] 24) := ⟨_, rfl⟩
        have hb6 : Below w5.heap.size w5 W6 := by rw [hW6]; exact below1 (Nat.le_refl _) _
        have hx6 : W6.heap[w5.heap.size]? = some (.cells #[.slice A3 ra.length c3, .slice none 0 0] 24 (0, 0)) := by rw [hW6]; exact heap_alloc_new _ _
        have HI0 : Hid (RevIn w w5 W6 w5.heap.size ra bad Aa ca Ab cb A3 c3 x 0 (.slice none 0 0)) := Lib.hid ⟨hb6, hx6, World.ownsRow_nil _ _ _ _⟩
        have HW6 := Lib.hid hW6
        have HIS : Hid (∀ y ∈ ra, y.size ≤ maxLen) := Lib.hid (fun y hy => HC5.out.a.2.2.1 y hy)
        clear hW6 hb6 hx6
        have hx6 : W6.heap[w.heap.size]? = some (boxC ra bad Aa ca Ab cb) := by rw [HI0.out.below.block _ (by have := HS5.out; omega)]; exact HX5.out
        rw [HW6.out] at hx6
        obtain ⟨k0, k1, -⟩ := boxC_cells hx6
        clear hx6
        obtain ⟨c0, c1, -⟩ := boxC_cells HX2.out
        go_wp2_with (at_builtin; refine wpList_run_append rfl _ _ rfl rfl rfl hap5 ?_)
        rw [← HW6.out]
        clear c0 c1 k0 k1 q0 q1 hap5
        go_loopw [8] (fun i wr => ∃ (k : Nat) (v : Value), k ≤ ra.length ∧ i = .int .i64 k ∧ Hid (RevIn w w5 wr w5.heap.size ra bad Aa ca Ab cb A3 c3 x k v)) (fun i _ => ra.length - (intOf i).toNat)
        case atStart => exact ⟨0, _, Nat.zero_le _, rfl, HI0⟩
        case round =>
          obtain ⟨k, v, hk, rfl, HI⟩ := hrel
          have i1 : (0 : Int) ≤ (k : Int) := Int.natCast_nonneg _
          have h6 := HGD6.out
          have HCR := Lib.hid (HC5.out.below HI.out.below)
          have hbx : wr.heap[w.heap.size]? = some (boxC ra bad Aa ca Ab cb) := by rw [HI.out.below.block _ (by have := HS5.out; omega)]; exact HX5.out
          obtain ⟨c0, c1, -⟩ := boxC_cells hbx
          obtain ⟨e0, e1, ef⟩ := cast2_cells HI.out.box
          have HSR : Hid (w5.heap.size < wr.heap.size) := Lib.hid (Array.getElem?_eq_some_iff.1 HI.out.box).1
          clear hbx
          by_cases hlt : k < ra.length
          · have i2 : (k : Int) < (ra.length : Int) := by omega
            obtain ⟨b, off, hA, hbl, hcl⟩ := HC5.out.a.cells (by intro h; rw [h] at hlt; simp at hlt)
            subst hA
            have hck := (HI.out.below.cell hbl).trans (hcl k hlt)
            have hst := revN_succ ra bad x k hlt
            have hka : k ≤ ca := by have := HCR.out.a.1; omega
            have hnl := revN_length ra bad x k
            obtain ⟨y, hy⟩ : ∃ y, y = ra[k] := ⟨_, rfl⟩
            rw [← hy] at hck hst
            have HID : Hid (RevIn w w5 wr.drew w5.heap.size ra bad (some ⟨b, off, none⟩) ca Ab cb A3 c3 x k v) := Lib.hid ⟨HI.out.below.drew, HI.out.box, HI.out.row⟩
            have HBX : Hid (wr.drew.heap[w.heap.size]? = some (boxC ra bad (some ⟨b, off, none⟩) ca Ab cb)) := Lib.hid (by show wr.heap[_]? = _; rw [HI.out.below.block _ (by have := HS5.out; omega)]; exact HX5.out)
            have HSB : Hid (w.heap.size < wr.drew.heap.size) := Lib.hid (by show _ < wr.heap.size; have := HSR.out; have := HS5.out; omega)
            have HCD : Hid (CastW wr.drew ra bad (some ⟨b, off, none⟩) ca Ab cb) := Lib.hid (HCR.out.below (Below.refl _ _).drew)
            have dk : wr.drew.cell? ⟨b, off + k, none⟩ = some (.string y) := hck
            have HST := Lib.hid hst
            have HNL := Lib.hid hnl
            have HBL := Lib.hid hbl
            obtain ⟨zy, hzy⟩ : ∃ z, z = posS bad y := ⟨_, rfl⟩
            have HZY : Hid (hasS bad y = decide (0 ≤ zy)) := Lib.hid (by rw [hasS_pos, hzy])
            have HFY := Lib.hid (find_any bad Ab cb y wr.drew HCD.out.b)
            rw [← hzy] at HFY
            clear hst hcl hck hy hnl hbl HCR HSR HCD hzy
            by_cases he : y = x
            · have HNX : Hid (revN ra bad x (k + 1) = revN ra bad x k ++ [y]) := Lib.hid (by have := HST.out; rw [if_pos (.inl he)] at this; exact this)
              subst he
              clear HST
              go_wp2_with fail
              refine wp_region_mix4 (fun _ => True) (fun Y => Below wr.drew.heap.size wr.drew Y) [] (.held 0 (.held 1 (.held 2 (.held 3 (.held 4 (.held 5 (.held 6 (.held 7 (.held 8 (.held 9 (.held 10 (.held 11 (.held 12 (.held 13 (.held 14 (.held 15 (.held 16 (.held 17 .nil)))))))))))))))))) mixed (by kernel_rfl) ?_
              clear c0 c1 e0 e1 ef HI
              generalize wr.drew = D at *
              refine mix4_take (v := .pointer (some ⟨w.heap.size, 0, none⟩)) rfl rfl rfl (fun _ _ _ h => h) trivial (Below.refl D.heap.size D) (fun Y _ hY => by
                (try simp only [Act.put]); go_simp) ?_
              refine mix4_take (v := .slice (some ⟨b, off, none⟩) ra.length ca) rfl rfl rfl (fun _ _ _ h => h) trivial (Below.refl D.heap.size D) (fun Y _ hY => by
                obtain ⟨z0, z1, -⟩ := boxC_cells ((hY.block _ (by have := HSB.out; omega)).trans HBX.out)
                clear hY dk
                (try simp only [Act.put]); go_simp) ?_
              refine mix4_take (v := .int .i64 k) rfl rfl rfl (fun _ _ _ h => h) trivial (Below.refl D.heap.size D) (fun Y _ hY => by
                (try simp only [Act.put]); go_simp) ?_
              refine mix4_take (v := .pointer (some ⟨b, off + k, none⟩)) rfl rfl rfl (fun _ _ _ h => h) trivial (Below.refl D.heap.size D) (fun Y _ hY => by
                (try simp only [Act.put]); go_simp) ?_
              (try simp only [Act.put, List.setIfInBounds_toArray, List.set_cons_succ, List.set_cons_zero, List.getElem_toArray, List.getElem_cons_succ, List.getElem_cons_zero])
              refine mix4_take (v := .string y) rfl rfl rfl (fun _ _ _ h => h) trivial (Below.refl D.heap.size D) (fun Y _ hY => by
                have z2 := (hY.cell (World.block_lt dk)).trans dk
                clear hY dk
                (try simp only [Act.put]); go_simp) ?_
              refine mix4_take (v := .string y) rfl rfl rfl (fun _ _ _ h => h) trivial (Below.refl D.heap.size D) (fun Y _ hY => by
                (try simp only [Act.put]); go_simp) ?_
              refine mix4_take (v := .bool true) rfl rfl rfl (fun _ _ _ h => h) trivial (Below.refl D.heap.size D) (fun Y _ hY => by
                (try simp only [Act.put]); go_simp) ?_
              refine mix4_take (v := .bool true) rfl rfl rfl (fun _ _ _ h => h) trivial (Below.refl D.heap.size D) (fun Y _ hY => by
                (try simp only [Act.put]); go_simp) ?_
              (try simp only [Act.put, List.setIfInBounds_toArray, List.set_cons_succ, List.set_cons_zero, List.getElem_toArray, List.getElem_cons_succ, List.getElem_cons_zero])
              refine mix5_off rfl (by kernel_rfl) rfl (fun _ _ _ h => h) trivial (Below.refl D.heap.size D) ?_
              refine mix5_off rfl (by kernel_rfl) rfl (fun _ _ _ h => h) trivial (Below.refl D.heap.size D) ?_
              refine mix5_off rfl (by kernel_rfl) rfl (fun _ _ _ h => h) trivial (Below.refl D.heap.size D) ?_
              refine mix5_off rfl (by kernel_rfl) rfl (fun _ _ _ h => h) trivial (Below.refl D.heap.size D) ?_
              (try simp only [Act.put, List.setIfInBounds_toArray, List.set_cons_succ, List.set_cons_zero, List.getElem_toArray, List.getElem_cons_succ, List.getElem_cons_zero])
              refine mix5_off rfl (by kernel_rfl) rfl (fun _ _ _ h => h) trivial (Below.refl D.heap.size D) ?_
              refine mix5_off rfl (by kernel_rfl) rfl (fun _ _ _ h => h) trivial (Below.refl D.heap.size D) ?_
              refine mix5_off rfl (by kernel_rfl) rfl (fun _ _ _ h => h) trivial (Below.refl D.heap.size D) ?_
              refine mix5_off rfl (by kernel_rfl) rfl (fun _ _ _ h => h) trivial (Below.refl D.heap.size D) ?_
              (try simp only [Act.put, List.setIfInBounds_toArray, List.set_cons_succ, List.set_cons_zero, List.getElem_toArray, List.getElem_cons_succ, List.getElem_cons_zero])
              refine mix5_off rfl (by kernel_rfl) rfl (fun _ _ _ h => h) trivial (Below.refl D.heap.size D) ?_
              refine mix4_take (v := .bool true) rfl rfl rfl (fun _ _ _ h => h) trivial (Below.refl D.heap.size D) (fun Y _ hY => by
                (try simp only [Act.put]); go_simp) ?_
              (try simp only [Act.put, List.setIfInBounds_toArray, List.set_cons_succ, List.set_cons_zero, List.getElem_toArray, List.getElem_cons_succ, List.getElem_cons_zero])
              refine mix4_nil ?_
              go_wp2_with fail
              refine wp_region_mix4 (fun Y => Below (w5.heap.size + 1) D.drew Y) (fun _ => True) [10] (.held 0 (.held 1 (.held 2 (.held 3 (.held 4 (.held 5 (.held 6 (.op 7 (.op 8 (.held 9 (.op 10 .nil))))))))))) mixed (by kernel_rfl) ?_
              have HIE : Hid (RevIn w w5 D.drew w5.heap.size ra bad (some ⟨b, off, none⟩) ca Ab cb A3 c3 y k v) := Lib.hid ⟨HID.out.below.drew, HID.out.box, HID.out.row⟩
              have HBY : Hid (D.drew.heap[w.heap.size]? = some (boxC ra bad (some ⟨b, off, none⟩) ca Ab cb)) := Lib.hid HBX.out
              have dj : D.drew.cell? ⟨b, off + k, none⟩ = some (.string y) := dk
              clear dk HID HBX
              generalize D.drew = F at *
              have HSE : Hid (w5.heap.size < F.heap.size) := Lib.hid (Array.getElem?_eq_some_iff.1 HIE.out.box).1
              obtain ⟨g5, c5, w8, hap, ho8, hg8⟩ := row_add slStr HIE.out.row (by have := HSE.out; omega) [.string y] rfl (strs_one [y]) (by have := HNL.out; omega)
              have hz8 : w8.heap[w5.heap.size]? = some (.cells #[.slice A3 ra.length c3, v] 24 (0, 0)) := by
                rw [hg8.old _ HSE.out (fun e => by have := (HIE.out.row.lt _ e).1; omega)]; exact HIE.out.box
              have HO8 := Lib.hid ho8; have HG8 := Lib.hid hg8.below; have HZ8 := Lib.hid hz8
              clear ho8 hg8 hz8
              refine mix4_take (v := .pointer (some ⟨w5.heap.size, 1, none⟩)) rfl rfl rfl (fun _ _ _ h => h) (Below.refl _ _) trivial (fun Y hY _ => by
                (try simp only [Act.put]); go_simp) ?_
              refine mix4_take (v := v) rfl rfl rfl (fun _ _ _ h => h) (Below.refl _ _) trivial (fun Y hY _ => by
                obtain ⟨z0, z1, -⟩ := cast2_cells ((hY.block _ (Nat.lt_succ_self _)).trans HIE.out.box)
                clear hY dj
                (try simp only [Act.put]); go_simp) ?_
              refine mix4_take (v := .pointer (some ⟨w.heap.size, 0, none⟩)) rfl rfl rfl (fun _ _ _ h => h) (Below.refl _ _) trivial (fun Y hY _ => by
                (try simp only [Act.put]); go_simp) ?_
              refine mix4_take (v := .slice (some ⟨b, off, none⟩) ra.length ca) rfl rfl rfl (fun _ _ _ h => h) (Below.refl _ _) trivial (fun Y hY _ => by
                obtain ⟨z0, z1, -⟩ := boxC_cells ((hY.block _ (by have := HS5.out; omega)).trans HBY.out)
                clear hY dj
                (try simp only [Act.put]); go_simp) ?_
              (try simp only [Act.put, List.setIfInBounds_toArray, List.set_cons_succ, List.set_cons_zero, List.getElem_toArray, List.getElem_cons_succ, List.getElem_cons_zero])
              refine mix4_take (v := .int .i64 k) rfl rfl rfl (fun _ _ _ h => h) (Below.refl _ _) trivial (fun Y hY _ => by
                (try simp only [Act.put]); go_simp) ?_
              refine mix4_take (v := .pointer (some ⟨b, off + k, none⟩)) rfl rfl rfl (fun _ _ _ h => h) (Below.refl _ _) trivial (fun Y hY _ => by
                (try simp only [Act.put]); go_simp) ?_
              (try simp only [Act.put, List.setIfInBounds_toArray, List.set_cons_succ, List.set_cons_zero, List.getElem_toArray, List.getElem_cons_succ, List.getElem_cons_zero])
              refine mix4_take (v := .string y) rfl rfl rfl (fun _ _ _ h => h) (Below.refl _ _) trivial (fun Y hY _ => by
                have z2 := (hY.cell (p := ⟨b, off + k, none⟩) (by show b < _; have := HBL.out; omega)).trans dj
                clear hY dj
                (try simp only [Act.put]); go_simp) ?_
              (try simp only [Act.put, List.setIfInBounds_toArray, List.set_cons_succ, List.set_cons_zero, List.getElem_toArray, List.getElem_cons_succ, List.getElem_cons_zero])
              refine mix4_op rfl rfl (fun K hK => ?_)
              go_wp2_with fail
              refine ⟨⟨fun _ => below1 (by have := HSE.out; omega) _, trivial⟩, ?_⟩
              (try simp only [Act.put, List.setIfInBounds_toArray, List.set_cons_succ, List.set_cons_zero, List.getElem_toArray, List.getElem_cons_succ, List.getElem_cons_zero])
              refine mix4_op rfl rfl (fun K hK => ?_)
              refine wp_run_append (.tmp 58) (.tmp 64) (by rfl) (by rfl) (by rfl) hap ?_
              refine hK _ _ ⟨⟨fun _ => HG8.out, trivial⟩, ?_⟩
              clear hK K hap
              (try simp only [Act.put, List.setIfInBounds_toArray, List.set_cons_succ, List.set_cons_zero, List.getElem_toArray, List.getElem_cons_succ, List.getElem_cons_zero])
              refine mix4_take (v := .pointer (some ⟨w5.heap.size, 1, none⟩)) rfl rfl rfl (fun _ _ _ h => h) HG8.out trivial (fun Y hY _ => by
                (try simp only [Act.put]); go_simp) ?_
              (try simp only [Act.put, List.setIfInBounds_toArray, List.set_cons_succ, List.set_cons_zero, List.getElem_toArray, List.getElem_cons_succ, List.getElem_cons_zero])
              obtain ⟨f0, f1, f2⟩ := cast2_cells HZ8.out
              refine mix4_op rfl rfl (fun K hK => ?_)
              go_wp2_with fail
              refine ⟨⟨fun h => absurd h (by decide), trivial⟩, ?_⟩
              refine mix4_nil ?_
              have hNX : RevIn w w5 (w8.setCell ⟨w5.heap.size, 1, none⟩ (.slice (some ⟨g5, 0, none⟩) ((revN ra bad y k).length + 1) c5)) w5.heap.size ra bad (some ⟨b, off, none⟩) ca Ab cb A3 c3 y (k + 1) (.slice (some ⟨g5, 0, none⟩) ((revN ra bad y k).length + 1) c5) := by
                refine ⟨(HIE.out.below.trans (HG8.out.mono (Nat.le_succ _))).setCell (Nat.le_refl _) _, cast2_set1 HZ8.out, ?_⟩
                rw [HNX.out, List.length_append, show strs (revN ra bad y k ++ [y]) = strs (revN ra bad y k) ++ [.string y] by simp [strs]]
                exact own_keep HO8.out (fun q hq => Below.heap_setCell _ _ _ _ (by have := (HO8.out.lt _ hq).1; show _ ≠ w5.heap.size; omega))
              have HNR := Lib.hid hNX
              clear hNX f0 f1 f2 HO8 HG8 HZ8 HIE HBY dj
              go_wp2_with fail
              go_roundw
              case rel => exact ⟨k + 1, _, by omega, by go_num, HNR⟩
              case measure => simp [intOf]; omega
            · have hb1 : (y.toList == x.toList) = false := by rw [Lib.bytes_beq_false_iff]; exact he
              have hb2 : ¬ y.toList = x.toList := by rw [← beq_iff_eq, hb1]; simp
              by_cases hh : 0 ≤ zy
              · have hd : decide (0 ≤ zy) = true := decide_eq_true hh
                have HNX : Hid (revN ra bad x (k + 1) = revN ra bad x k ++ [y]) := Lib.hid (by have := HST.out; rw [if_pos (.inr (by rw [HZY.out]; exact hd))] at this; exact this)
                clear HST HZY he
                go_wp2_with fail
                refine wp_region_mix4 (fun _ => True) (fun Y => Below wr.drew.heap.size wr.drew Y) [] (.held 0 (.held 1 (.held 2 (.held 3 (.held 4 (.held 5 (.held 6 (.held 7 (.held 8 (.held 9 (.held 10 (.held 11 (.held 12 (.held 13 (.held 14 (.op 15 (.held 16 (.held 17 .nil)))))))))))))))))) mixed (by kernel_rfl) ?_
                clear c0 c1 e0 e1 ef HI
                generalize wr.drew = D at *
                refine mix4_take (v := .pointer (some ⟨w.heap.size, 0, none⟩)) rfl rfl rfl (fun _ _ _ h => h) trivial (Below.refl D.heap.size D) (fun Y _ hY => by
                  (try simp only [Act.put]); go_simp) ?_
                refine mix4_take (v := .slice (some ⟨b, off, none⟩) ra.length ca) rfl rfl rfl (fun _ _ _ h => h) trivial (Below.refl D.heap.size D) (fun Y _ hY => by
                  obtain ⟨z0, z1, -⟩ := boxC_cells ((hY.block _ (by have := HSB.out; omega)).trans HBX.out)
                  clear hY dk
                  (try simp only [Act.put]); go_simp) ?_
                refine mix4_take (v := .int .i64 k) rfl rfl rfl (fun _ _ _ h => h) trivial (Below.refl D.heap.size D) (fun Y _ hY => by
                  (try simp only [Act.put]); go_simp) ?_
                refine mix4_take (v := .pointer (some ⟨b, off + k, none⟩)) rfl rfl rfl (fun _ _ _ h => h) trivial (Below.refl D.heap.size D) (fun Y _ hY => by
                  (try simp only [Act.put]); go_simp) ?_
                (try simp only [Act.put, List.setIfInBounds_toArray, List.set_cons_succ, List.set_cons_zero, List.getElem_toArray, List.getElem_cons_succ, List.getElem_cons_zero])
                refine mix4_take (v := .string y) rfl rfl rfl (fun _ _ _ h => h) trivial (Below.refl D.heap.size D) (fun Y _ hY => by
                  have z2 := (hY.cell (World.block_lt dk)).trans dk
                  clear hY dk
                  (try simp only [Act.put]); go_simp) ?_
                refine mix4_take (v := .string x) rfl rfl rfl (fun _ _ _ h => h) trivial (Below.refl D.heap.size D) (fun Y _ hY => by
                  (try simp only [Act.put]); go_simp) ?_
                refine mix4_take (v := .bool false) rfl rfl rfl (fun _ _ _ h => h) trivial (Below.refl D.heap.size D) (fun Y _ hY => by
                  (try simp only [Act.put]); go_simp) ?_
                refine mix4_take (v := .bool false) rfl rfl rfl (fun _ _ _ h => h) trivial (Below.refl D.heap.size D) (fun Y _ hY => by
                  (try simp only [Act.put]); go_simp) ?_
                (try simp only [Act.put, List.setIfInBounds_toArray, List.set_cons_succ, List.set_cons_zero, List.getElem_toArray, List.getElem_cons_succ, List.getElem_cons_zero])
                refine mix5_take_g (v := .pointer (some ⟨w.heap.size, 1, none⟩)) rfl (by kernel_rfl) rfl (fun _ _ _ h => h) trivial (Below.refl D.heap.size D) (fun Y _ hY => by
                  (try simp only [Act.put]); go_simp) ?_
                (try simp only [Act.put, List.setIfInBounds_toArray, List.set_cons_succ, List.set_cons_zero, List.getElem_toArray, List.getElem_cons_succ, List.getElem_cons_zero])
                refine mix5_take_g (v := .slice Ab bad.length cb) rfl (by kernel_rfl) rfl (fun _ _ _ h => h) trivial (Below.refl D.heap.size D) (fun Y _ hY => by
                  obtain ⟨z0, z1, -⟩ := boxC_cells ((hY.block _ (by have := HSB.out; omega)).trans HBX.out)
                  clear hY dk
                  (try simp only [Act.put]); go_simp) ?_
                (try simp only [Act.put, List.setIfInBounds_toArray, List.set_cons_succ, List.set_cons_zero, List.getElem_toArray, List.getElem_cons_succ, List.getElem_cons_zero])
                refine mix5_take_g (v := .pointer (some ⟨w.heap.size, 0, none⟩)) rfl (by kernel_rfl) rfl (fun _ _ _ h => h) trivial (Below.refl D.heap.size D) (fun Y _ hY => by
                  (try simp only [Act.put]); go_simp) ?_
                (try simp only [Act.put, List.setIfInBounds_toArray, List.set_cons_succ, List.set_cons_zero, List.getElem_toArray, List.getElem_cons_succ, List.getElem_cons_zero])
                refine mix5_take_g (v := .slice (some ⟨b, off, none⟩) ra.length ca) rfl (by kernel_rfl) rfl (fun _ _ _ h => h) trivial (Below.refl D.heap.size D) (fun Y _ hY => by
                  obtain ⟨z0, z1, -⟩ := boxC_cells ((hY.block _ (by have := HSB.out; omega)).trans HBX.out)
                  clear hY dk
                  (try simp only [Act.put]); go_simp) ?_
                (try simp only [Act.put, List.setIfInBounds_toArray, List.set_cons_succ, List.set_cons_zero, List.getElem_toArray, List.getElem_cons_succ, List.getElem_cons_zero])
                refine mix5_take_g (v := .int .i64 k) rfl (by kernel_rfl) rfl (fun _ _ _ h => h) trivial (Below.refl D.heap.size D) (fun Y _ hY => by
                  (try simp only [Act.put]); go_simp) ?_
                (try simp only [Act.put, List.setIfInBounds_toArray, List.set_cons_succ, List.set_cons_zero, List.getElem_toArray, List.getElem_cons_succ, List.getElem_cons_zero])
                refine mix5_take_g (v := .pointer (some ⟨b, off + k, none⟩)) rfl (by kernel_rfl) rfl (fun _ _ _ h => h) trivial (Below.refl D.heap.size D) (fun Y _ hY => by
                  (try simp only [Act.put]); go_simp) ?_
                (try simp only [Act.put, List.setIfInBounds_toArray, List.set_cons_succ, List.set_cons_zero, List.getElem_toArray, List.getElem_cons_succ, List.getElem_cons_zero])
                refine mix5_take_g (v := .string y) rfl (by kernel_rfl) rfl (fun _ _ _ h => h) trivial (Below.refl D.heap.size D) (fun Y _ hY => by
                  have z2 := (hY.cell (World.block_lt dk)).trans dk
                  clear hY dk
                  (try simp only [Act.put]); go_simp) ?_
                (try simp only [Act.put, List.setIfInBounds_toArray, List.set_cons_succ, List.set_cons_zero, List.getElem_toArray, List.getElem_cons_succ, List.getElem_cons_zero])
                (try simp only [Act.put, List.setIfInBounds_toArray, List.set_cons_succ, List.set_cons_zero, List.getElem_toArray, List.getElem_cons_succ, List.getElem_cons_zero])
                refine mix4_op_g rfl (by kernel_rfl) (fun K hK => ?_)
                have HCC := Lib.hid (HFY.out)
                (try simp only [castV, Tm.val] at HCC)
                go_wp2_with fail
                refine HCC.out.mono ?_; clear HCC
                rintro e y15 ⟨rfl, hw15⟩
                have HB15 := Lib.hid (Below.trans (Below.refl D.heap.size D) ((show Below D.heap.size D y15 by rw [hw15]; exact Below.refl _ _).mono (Below.size (Below.refl D.heap.size D))))
                refine hK _ _ ⟨⟨fun _ => trivial, HB15.out⟩, ?_⟩
                clear hK K
                subst hw15
                refine mix5_take_g (v := .bool true) rfl (by kernel_rfl) rfl (fun _ _ _ h => h) trivial HB15.out (fun Y _ hY => by
                  (try simp only [Act.put]); go_simp) ?_
                (try simp only [Act.put, List.setIfInBounds_toArray, List.set_cons_succ, List.set_cons_zero, List.getElem_toArray, List.getElem_cons_succ, List.getElem_cons_zero])
                refine mix4_take (v := .bool true) rfl rfl rfl (fun _ _ _ h => h) trivial HB15.out (fun Y _ hY => by
                  (try simp only [Act.put]); go_simp) ?_
                (try simp only [Act.put, List.setIfInBounds_toArray, List.set_cons_succ, List.set_cons_zero, List.getElem_toArray, List.getElem_cons_succ, List.getElem_cons_zero])
                refine mix4_nil ?_
                go_wp2_with fail
                refine wp_region_mix4 (fun Y => Below (w5.heap.size + 1) y15.drew Y) (fun _ => True) [10] (.held 0 (.held 1 (.held 2 (.held 3 (.held 4 (.held 5 (.held 6 (.op 7 (.op 8 (.held 9 (.op 10 .nil))))))))))) mixed (by kernel_rfl) ?_
                have HIE : Hid (RevIn w w5 y15.drew w5.heap.size ra bad (some ⟨b, off, none⟩) ca Ab cb A3 c3 x k v) := Lib.hid ⟨HID.out.below.drew, HID.out.box, HID.out.row⟩
                have HBY : Hid (y15.drew.heap[w.heap.size]? = some (boxC ra bad (some ⟨b, off, none⟩) ca Ab cb)) := Lib.hid HBX.out
                have dj : y15.drew.cell? ⟨b, off + k, none⟩ = some (.string y) := dk
                clear dk HID HBX
                generalize y15.drew = F at *
                have HSE : Hid (w5.heap.size < F.heap.size) := Lib.hid (Array.getElem?_eq_some_iff.1 HIE.out.box).1
                obtain ⟨g5, c5, w8, hap, ho8, hg8⟩ := row_add slStr HIE.out.row (by have := HSE.out; omega) [.string y] rfl (strs_one [y]) (by have := HNL.out; omega)
                have hz8 : w8.heap[w5.heap.size]? = some (.cells #[.slice A3 ra.length c3, v] 24 (0, 0)) := by
                  rw [hg8.old _ HSE.out (fun e => by have := (HIE.out.row.lt _ e).1; omega)]; exact HIE.out.box
                have HO8 := Lib.hid ho8; have HG8 := Lib.hid hg8.below; have HZ8 := Lib.hid hz8
                clear ho8 hg8 hz8
                refine mix4_take (v := .pointer (some ⟨w5.heap.size, 1, none⟩)) rfl rfl rfl (fun _ _ _ h => h) (Below.refl _ _) trivial (fun Y hY _ => by
                  (try simp only [Act.put]); go_simp) ?_
                refine mix4_take (v := v) rfl rfl rfl (fun _ _ _ h => h) (Below.refl _ _) trivial (fun Y hY _ => by
                  obtain ⟨z0, z1, -⟩ := cast2_cells ((hY.block _ (Nat.lt_succ_self _)).trans HIE.out.box)
                  clear hY dj
                  (try simp only [Act.put]); go_simp) ?_
                refine mix4_take (v := .pointer (some ⟨w.heap.size, 0, none⟩)) rfl rfl rfl (fun _ _ _ h => h) (Below.refl _ _) trivial (fun Y hY _ => by
                  (try simp only [Act.put]); go_simp) ?_
                refine mix4_take (v := .slice (some ⟨b, off, none⟩) ra.length ca) rfl rfl rfl (fun _ _ _ h => h) (Below.refl _ _) trivial (fun Y hY _ => by
                  obtain ⟨z0, z1, -⟩ := boxC_cells ((hY.block _ (by have := HS5.out; omega)).trans HBY.out)
                  clear hY dj
                  (try simp only [Act.put]); go_simp) ?_
                (try simp only [Act.put, List.setIfInBounds_toArray, List.set_cons_succ, List.set_cons_zero, List.getElem_toArray, List.getElem_cons_succ, List.getElem_cons_zero])
                refine mix4_take (v := .int .i64 k) rfl rfl rfl (fun _ _ _ h => h) (Below.refl _ _) trivial (fun Y hY _ => by
                  (try simp only [Act.put]); go_simp) ?_
                refine mix4_take (v := .pointer (some ⟨b, off + k, none⟩)) rfl rfl rfl (fun _ _ _ h => h) (Below.refl _ _) trivial (fun Y hY _ => by
                  (try simp only [Act.put]); go_simp) ?_
                (try simp only [Act.put, List.setIfInBounds_toArray, List.set_cons_succ, List.set_cons_zero, List.getElem_toArray, List.getElem_cons_succ, List.getElem_cons_zero])
                refine mix4_take (v := .string y) rfl rfl rfl (fun _ _ _ h => h) (Below.refl _ _) trivial (fun Y hY _ => by
                  have z2 := (hY.cell (p := ⟨b, off + k, none⟩) (by show b < _; have := HBL.out; omega)).trans dj
                  clear hY dj
                  (try simp only [Act.put]); go_simp) ?_
                (try simp only [Act.put, List.setIfInBounds_toArray, List.set_cons_succ, List.set_cons_zero, List.getElem_toArray, List.getElem_cons_succ, List.getElem_cons_zero])
                refine mix4_op rfl rfl (fun K hK => ?_)
                go_wp2_with fail
                refine ⟨⟨fun _ => below1 (by have := HSE.out; omega) _, trivial⟩, ?_⟩
                (try simp only [Act.put, List.setIfInBounds_toArray, List.set_cons_succ, List.set_cons_zero, List.getElem_toArray, List.getElem_cons_succ, List.getElem_cons_zero])
                refine mix4_op rfl rfl (fun K hK => ?_)
                refine wp_run_append (.tmp 58) (.tmp 64) (by rfl) (by rfl) (by rfl) hap ?_
                refine hK _ _ ⟨⟨fun _ => HG8.out, trivial⟩, ?_⟩
                clear hK K hap
                (try simp only [Act.put, List.setIfInBounds_toArray, List.set_cons_succ, List.set_cons_zero, List.getElem_toArray, List.getElem_cons_succ, List.getElem_cons_zero])
                refine mix4_take (v := .pointer (some ⟨w5.heap.size, 1, none⟩)) rfl rfl rfl (fun _ _ _ h => h) HG8.out trivial (fun Y hY _ => by
                  (try simp only [Act.put]); go_simp) ?_
                (try simp only [Act.put, List.setIfInBounds_toArray, List.set_cons_succ, List.set_cons_zero, List.getElem_toArray, List.getElem_cons_succ, List.getElem_cons_zero])
                obtain ⟨f0, f1, f2⟩ := cast2_cells HZ8.out
                refine mix4_op rfl rfl (fun K hK => ?_)
                go_wp2_with fail
                refine ⟨⟨fun h => absurd h (by decide), trivial⟩, ?_⟩
                refine mix4_nil ?_
                have hNX : RevIn w w5 (w8.setCell ⟨w5.heap.size, 1, none⟩ (.slice (some ⟨g5, 0, none⟩) ((revN ra bad x k).length + 1) c5)) w5.heap.size ra bad (some ⟨b, off, none⟩) ca Ab cb A3 c3 x (k + 1) (.slice (some ⟨g5, 0, none⟩) ((revN ra bad x k).length + 1) c5) := by
                  refine ⟨(HIE.out.below.trans (HG8.out.mono (Nat.le_succ _))).setCell (Nat.le_refl _) _, cast2_set1 HZ8.out, ?_⟩
                  rw [HNX.out, List.length_append, show strs (revN ra bad x k ++ [y]) = strs (revN ra bad x k) ++ [.string y] by simp [strs]]
                  exact own_keep HO8.out (fun q hq => Below.heap_setCell _ _ _ _ (by have := (HO8.out.lt _ hq).1; show _ ≠ w5.heap.size; omega))
                have HNR := Lib.hid hNX
                clear hNX f0 f1 f2 HO8 HG8 HZ8 HIE HBY dj
                go_wp2_with fail
                go_roundw
                case rel => exact ⟨k + 1, _, by omega, by go_num, HNR⟩
                case measure => simp [intOf]; omega
              · have hd : decide (0 ≤ zy) = false := decide_eq_false hh
                have HNX : Hid (revN ra bad x (k + 1) = revN ra bad x k) := Lib.hid (by have := HST.out; rw [if_neg (by rw [HZY.out, hd]; simp [he])] at this; exact this)
                clear HST HZY he
                go_wp2_with fail
                refine wp_region_mix4 (fun _ => True) (fun Y => Below wr.drew.heap.size wr.drew Y) [] (.held 0 (.held 1 (.held 2 (.held 3 (.held 4 (.held 5 (.held 6 (.held 7 (.held 8 (.held 9 (.held 10 (.held 11 (.held 12 (.held 13 (.held 14 (.op 15 (.held 16 (.held 17 .nil)))))))))))))))))) mixed (by kernel_rfl) ?_
                clear c0 c1 e0 e1 ef HI
                generalize wr.drew = D at *
                refine mix4_take (v := .pointer (some ⟨w.heap.size, 0, none⟩)) rfl rfl rfl (fun _ _ _ h => h) trivial (Below.refl D.heap.size D) (fun Y _ hY => by
                  (try simp only [Act.put]); go_simp) ?_
                refine mix4_take (v := .slice (some ⟨b, off, none⟩) ra.length ca) rfl rfl rfl (fun _ _ _ h => h) trivial (Below.refl D.heap.size D) (fun Y _ hY => by
                  obtain ⟨z0, z1, -⟩ := boxC_cells ((hY.block _ (by have := HSB.out; omega)).trans HBX.out)
                  clear hY dk
                  (try simp only [Act.put]); go_simp) ?_
                refine mix4_take (v := .int .i64 k) rfl rfl rfl (fun _ _ _ h => h) trivial (Below.refl D.heap.size D) (fun Y _ hY => by
                  (try simp only [Act.put]); go_simp) ?_
                refine mix4_take (v := .pointer (some ⟨b, off + k, none⟩)) rfl rfl rfl (fun _ _ _ h => h) trivial (Below.refl D.heap.size D) (fun Y _ hY => by
                  (try simp only [Act.put]); go_simp) ?_
                (try simp only [Act.put, List.setIfInBounds_toArray, List.set_cons_succ, List.set_cons_zero, List.getElem_toArray, List.getElem_cons_succ, List.getElem_cons_zero])
                refine mix4_take (v := .string y) rfl rfl rfl (fun _ _ _ h => h) trivial (Below.refl D.heap.size D) (fun Y _ hY => by
                  have z2 := (hY.cell (World.block_lt dk)).trans dk
                  clear hY dk
                  (try simp only [Act.put]); go_simp) ?_
                refine mix4_take (v := .string x) rfl rfl rfl (fun _ _ _ h => h) trivial (Below.refl D.heap.size D) (fun Y _ hY => by
                  (try simp only [Act.put]); go_simp) ?_
                refine mix4_take (v := .bool false) rfl rfl rfl (fun _ _ _ h => h) trivial (Below.refl D.heap.size D) (fun Y _ hY => by
                  (try simp only [Act.put]); go_simp) ?_
                refine mix4_take (v := .bool false) rfl rfl rfl (fun _ _ _ h => h) trivial (Below.refl D.heap.size D) (fun Y _ hY => by
                  (try simp only [Act.put]); go_simp) ?_
                (try simp only [Act.put, List.setIfInBounds_toArray, List.set_cons_succ, List.set_cons_zero, List.getElem_toArray, List.getElem_cons_succ, List.getElem_cons_zero])
                refine mix5_take_g (v := .pointer (some ⟨w.heap.size, 1, none⟩)) rfl (by kernel_rfl) rfl (fun _ _ _ h => h) trivial (Below.refl D.heap.size D) (fun Y _ hY => by
                  (try simp only [Act.put]); go_simp) ?_
                (try simp only [Act.put, List.setIfInBounds_toArray, List.set_cons_succ, List.set_cons_zero, List.getElem_toArray, List.getElem_cons_succ, List.getElem_cons_zero])
                refine mix5_take_g (v := .slice Ab bad.length cb) rfl (by kernel_rfl) rfl (fun _ _ _ h => h) trivial (Below.refl D.heap.size D) (fun Y _ hY => by
                  obtain ⟨z0, z1, -⟩ := boxC_cells ((hY.block _ (by have := HSB.out; omega)).trans HBX.out)
                  clear hY dk
                  (try simp only [Act.put]); go_simp) ?_
                (try simp only [Act.put, List.setIfInBounds_toArray, List.set_cons_succ, List.set_cons_zero, List.getElem_toArray, List.getElem_cons_succ, List.getElem_cons_zero])
                refine mix5_take_g (v := .pointer (some ⟨w.heap.size, 0, none⟩)) rfl (by kernel_rfl) rfl (fun _ _ _ h => h) trivial (Below.refl D.heap.size D) (fun Y _ hY => by
                  (try simp only [Act.put]); go_simp) ?_
                (try simp only [Act.put, List.setIfInBounds_toArray, List.set_cons_succ, List.set_cons_zero, List.getElem_toArray, List.getElem_cons_succ, List.getElem_cons_zero])
                refine mix5_take_g (v := .slice (some ⟨b, off, none⟩) ra.length ca) rfl (by kernel_rfl) rfl (fun _ _ _ h => h) trivial (Below.refl D.heap.size D) (fun Y _ hY => by
                  obtain ⟨z0, z1, -⟩ := boxC_cells ((hY.block _ (by have := HSB.out; omega)).trans HBX.out)
                  clear hY dk
                  (try simp only [Act.put]); go_simp) ?_
                (try simp only [Act.put, List.setIfInBounds_toArray, List.set_cons_succ, List.set_cons_zero, List.getElem_toArray, List.getElem_cons_succ, List.getElem_cons_zero])
                refine mix5_take_g (v := .int .i64 k) rfl (by kernel_rfl) rfl (fun _ _ _ h => h) trivial (Below.refl D.heap.size D) (fun Y _ hY => by
                  (try simp only [Act.put]); go_simp) ?_
                (try simp only [Act.put, List.setIfInBounds_toArray, List.set_cons_succ, List.set_cons_zero, List.getElem_toArray, List.getElem_cons_succ, List.getElem_cons_zero])
                refine mix5_take_g (v := .pointer (some ⟨b, off + k, none⟩)) rfl (by kernel_rfl) rfl (fun _ _ _ h => h) trivial (Below.refl D.heap.size D) (fun Y _ hY => by
                  (try simp only [Act.put]); go_simp) ?_
                (try simp only [Act.put, List.setIfInBounds_toArray, List.set_cons_succ, List.set_cons_zero, List.getElem_toArray, List.getElem_cons_succ, List.getElem_cons_zero])
                refine mix5_take_g (v := .string y) rfl (by kernel_rfl) rfl (fun _ _ _ h => h) trivial (Below.refl D.heap.size D) (fun Y _ hY => by
                  have z2 := (hY.cell (World.block_lt dk)).trans dk
                  clear hY dk
                  (try simp only [Act.put]); go_simp) ?_
                (try simp only [Act.put, List.setIfInBounds_toArray, List.set_cons_succ, List.set_cons_zero, List.getElem_toArray, List.getElem_cons_succ, List.getElem_cons_zero])
                (try simp only [Act.put, List.setIfInBounds_toArray, List.set_cons_succ, List.set_cons_zero, List.getElem_toArray, List.getElem_cons_succ, List.getElem_cons_zero])
                refine mix4_op_g rfl (by kernel_rfl) (fun K hK => ?_)
                have HCC := Lib.hid (HFY.out)
                (try simp only [castV, Tm.val] at HCC)
                go_wp2_with fail
                refine HCC.out.mono ?_; clear HCC
                rintro e y15 ⟨rfl, hw15⟩
                have HB15 := Lib.hid (Below.trans (Below.refl D.heap.size D) ((show Below D.heap.size D y15 by rw [hw15]; exact Below.refl _ _).mono (Below.size (Below.refl D.heap.size D))))
                refine hK _ _ ⟨⟨fun _ => trivial, HB15.out⟩, ?_⟩
                clear hK K
                subst hw15
                refine mix5_take_g (v := .bool false) rfl (by kernel_rfl) rfl (fun _ _ _ h => h) trivial HB15.out (fun Y _ hY => by
                  (try simp only [Act.put]); go_simp) ?_
                (try simp only [Act.put, List.setIfInBounds_toArray, List.set_cons_succ, List.set_cons_zero, List.getElem_toArray, List.getElem_cons_succ, List.getElem_cons_zero])
                refine mix4_take (v := .bool false) rfl rfl rfl (fun _ _ _ h => h) trivial HB15.out (fun Y _ hY => by
                  (try simp only [Act.put]); go_simp) ?_
                (try simp only [Act.put, List.setIfInBounds_toArray, List.set_cons_succ, List.set_cons_zero, List.getElem_toArray, List.getElem_cons_succ, List.getElem_cons_zero])
                refine mix4_nil ?_
                go_wp2_with fail
                have HNR : Hid (RevIn w w5 y15 w5.heap.size ra bad (some ⟨b, off, none⟩) ca Ab cb A3 c3 x (k + 1) v) := Lib.hid ⟨HID.out.below, HID.out.box, by rw [HNX.out]; exact HID.out.row⟩
                go_roundw
                case rel => exact ⟨k + 1, _, by omega, by go_num, HNR⟩
                case measure => simp [intOf]; omega
          · obtain rfl : k = ra.length := by omega
            have hrow := HI.out.row
            rw [revN_all, ← HRB2.out] at hrow
            obtain ⟨A7, c7, rfl, hrep7⟩ := repV_own hrow
            have hy7 : wr.heap[w.heap.size + 1]? = some (.cells #[.slice none 0 0, .slice none 0 0] 24 (0, 0)) := by rw [HI.out.below.block _ (by have := HS5.out; omega)]; exact HY5.out
            have HN7 : Hid (RepN wr (fun b => w.heap.size + 2 ≤ b ∧ b < wr.heap.size) rb A7 c7) := Lib.hid ((hrep7 (fun b => w.heap.size + 2 ≤ b ∧ b < wr.heap.size) (fun b h1 h2 _ => ⟨by have := HS5.out; omega, h2⟩)).toN (fun y hy => HIS.out y (by rw [HRB2.out] at hy; exact revC_mem hy))).2
            have HN3r : Hid (RepN wr (fun b => w.heap.size + 2 ≤ b ∧ b < wr.heap.size) ra A3 c3) := Lib.hid (RepN.mono (fun b h => ⟨h.1, by have := HSR.out; omega⟩) (fun p hp => HI.out.below.cell hp.2) HN3.out)
            have HBR := Lib.hid (HB5.out.trans (HI.out.below.mono (by have := HS5.out; omega)))
            obtain ⟨d0, d1, df⟩ := cast2_cells hy7
            clear hrow hrep7 hy7
            go_wp2_with fail
            refine bodyPost_ret (v := .tuple #[.agg #[.slice A3 ra.length c3, .slice A7 rb.length c7], .int .i64 0]) ?_ rfl ?_
            · simp [results, Tryd.results35, go_sem, d0, d1, df]
            refine ⟨A3, c3, A7, c7, rfl, ⟨RepN.mono (fun b h => ?_) (fun p hp => ?_) HN3r.out, RepN.mono (fun b h => ?_) (fun p hp => ?_) HN7.out⟩, (HBR.out.setCell (Nat.le_succ w.heap.size) _).setCell (Nat.le_succ w.heap.size) _⟩
            · simpa [World.setCell] using h.2
            · rw [World.cell?_setCell_other _ _ _ _ (fun e => by rw [← e] at hp; have := hp.1; simp at this), World.cell?_setCell_other _ _ _ _ (fun e => by rw [← e] at hp; have := hp.1; simp at this)]
            · simpa [World.setCell] using h.2
            · rw [World.cell?_setCell_other _ _ _ _ (fun e => by rw [← e] at hp; have := hp.1; simp at this), World.cell?_setCell_other _ _ _ _ (fun e => by rw [← e] at hp; have := hp.1; simp at this)]
  · have hb : (E != 0) = true := by rw [bne_iff_ne]; exact h0
    have hRR : R = E := by rw [HR.out, if_neg h0]
    subst hRR
    have hraa : ra = [] := by rw [HRA.out, if_neg h0]
    have hrbb : rb = [] := by rw [HRB.out, if_neg h0]
    subst hraa hrbb
    clear HR HRA HRB HG h0
    go_wp2_with fail
    refine bodyPost_ret (v := .tuple #[.agg #[.slice none 0 0, .slice none 0 0], .int .i64 R]) ?_ rfl ?_
    · simp [results, Tryd.results35, go_sem, d0, d1, df]
    exact ⟨none, 0, none, 0, rfl, ⟨RepN.nil, RepN.nil⟩, (HB2.out.setCell (Nat.le_succ w.heap.size) _).setCell (Nat.le_succ w.heap.size) _⟩
end Go.Proofs.YtpjmdilpldaapaaDoor
