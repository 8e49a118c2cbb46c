/- cast.Reveal. -/
import Derived.Test.YtpjmdilpldaapaaDoorCrev0
namespace Go.Proofs.YtpjmdilpldaapaaDoor
open Go.RowKit Go.Sort

set_option linter.unusedSimpArgs false in
set_option maxHeartbeats 4000000 in
set_option maxRecDepth 100000 in
theorem crev_any (ags bad : List ByteArray) (Aa Ab : Option Addr) (ca cb : Nat) (x : ByteArray) (w : World) (hc : CastW w ags bad Aa ca Ab cb) :
    Calls Tryd.prog 34 #[castV ags bad Aa ca Ab cb, .string x] w (RevOf w (revEr ags bad x) (revA ags bad x) (revB ags bad x)) := by
  have mixed : Tryd.prog.follows .mixedOrders = true := by kernel_rfl
  obtain ⟨W0, hW0⟩ : ∃ W0, W0 = w.alloc (.cells #[.slice Aa ags.length ca, .slice Ab bad.length cb] 24) := ⟨_, rfl⟩
  have hl0 : Below w.heap.size w W0 := by rw [hW0]; exact below1 (Nat.le_refl _) _
  have hx0 : W0.heap[w.heap.size]? = some (boxC ags bad Aa ca Ab cb) := by rw [hW0]; exact heap_alloc_new _ _
  have s0 : W0.heap.size = w.heap.size + 1 := by rw [hW0]; simp
  obtain ⟨W1, hW1⟩ : ∃ W1, W1 = W0.alloc (.cells #[.slice none 0 0, .slice none 0 0] 24) := ⟨_, rfl⟩
  have hl1 : Below W0.heap.size W0 W1 := by rw [hW1]; exact below1 (Nat.le_refl _) _
  have hy1 : W1.heap[w.heap.size + 1]? = some (.cells #[.slice none 0 0, .slice none 0 0] 24 (0, 0)) := by rw [hW1, ← s0]; exact heap_alloc_new _ _
  have hx1 : W1.heap[w.heap.size]? = some (boxC ags bad Aa ca Ab cb) := by rw [hl1.block _ (by omega)]; exact hx0
  have s1 : W1.heap.size = w.heap.size + 2 := by rw [hW1]; simp [s0]
  have hl01 : Below w.heap.size w W1 := hl0.trans (hl1.mono (by omega))
  have HC1 := Lib.hid (hc.below hl01)
  have HV := Lib.hid (cvalid_any ags bad Aa Ab ca cb W1 HC1.out)
  have HL1 := Lib.hid hl01; have HS1 := Lib.hid s1; have HX1 := Lib.hid hx1; have HY1 := Lib.hid hy1
  rw [hW0] at hW1
  have HW1 := Lib.hid hW1
  have HG : Hid (castE ags bad = 0 → Good ags bad) := Lib.hid fun h => good_of h
  obtain ⟨R, hR⟩ : ∃ R, R = revEr ags bad x := ⟨_, rfl⟩
  obtain ⟨ra, hra⟩ : ∃ ra, ra = revA ags bad x := ⟨_, rfl⟩
  obtain ⟨rb, hrb⟩ : ∃ rb, rb = revB ags bad x := ⟨_, rfl⟩
  rw [← hR, ← hra, ← hrb]
  unfold revA at hra
  unfold revB at hrb
  rw [← hR] at hra hrb
  unfold revEr at hR
  obtain ⟨E, hE⟩ : ∃ E, E = castE ags bad := ⟨_, rfl⟩
  rw [← hE] at HV HG hR
  have HR := Lib.hid hR; have HRA := Lib.hid hra; have HRB := Lib.hid hrb
  clear hl0 hx0 s0 hl1 hy1 hx1 s1 hl01 hW0 hW1 hc hE hR hra hrb
  unfold castV at HV ⊢
  go_enter Tryd.func34, Tryd.ntmps34
  have hb1 := HX1.out
  obtain ⟨b0, b1, -⟩ := boxC_cells hb1
  clear hb1
  go_wp2_with fail
  rw [← HW1.out]
  refine HV.out.mono ?_
  rintro e w2 ⟨rfl, hl2⟩
  have HX2 : Hid (w2.heap[w.heap.size]? = some (boxC ags bad Aa ca Ab cb)) := Lib.hid (by rw [hl2.below.block _ (by have := HS1.out; omega)]; exact HX1.out)
  have HY2 : Hid (w2.heap[w.heap.size + 1]? = some (.cells #[.slice none 0 0, .slice none 0 0] 24 (0, 0))) := Lib.hid (by rw [hl2.below.block _ (by have := HS1.out; omega)]; exact HY1.out)
  have HB2 := Lib.hid (HL1.out.trans (hl2.below.mono (by have := HS1.out; omega)))
  have HC2 := Lib.hid (HC1.out.below hl2.below)
  have HS2 : Hid (w.heap.size + 2 ≤ w2.heap.size) := Lib.hid (by have := HS1.out; have := hl2.size; omega)
  clear hl2 b0 b1 HV HL1 HS1 HX1 HY1 HW1 HC1
  obtain ⟨c0, c1, -⟩ := boxC_cells HX2.out
  obtain ⟨d0, d1, df⟩ := cast2_cells HY2.out
  by_cases h0 : E = 0
  · subst h0
    have HGD := Lib.hid (HG.out rfl)
    clear HG
    cases hq : hasS ags x with
    | false =>
      have HCT := Lib.hid (containsN ags Aa ca x w2 HC2.out.a)
      rw [hq] at HCT
      have hRR : R = 4 := by rw [HR.out, if_pos rfl, hq]; rfl
      subst hRR
      have hraa : ra = [] := by rw [HRA.out, if_neg (by decide)]
      have hrbb : rb = [] := by rw [HRB.out, if_neg (by decide)]
      subst hraa hrbb
      clear hq HR HRA HRB
      go_wp2_with fail
      refine HCT.out.mono ?_; clear HCT
      rintro e w3 ⟨rfl, hw⟩
      subst hw
      go_wp2_with fail
      refine bodyPost_ret (v := .tuple #[.agg #[.slice none 0 0, .slice none 0 0], .int .i64 4]) ?_ rfl ?_
      · simp [results, Tryd.results34, go_sem, d0, d1, df]
      exact ⟨none, 0, none, 0, rfl, ⟨RepN.nil, RepN.nil⟩, (HB2.out.setCell (Nat.le_succ w.heap.size) _).setCell (Nat.le_succ w.heap.size) _⟩
    | true =>
      cases hq2 : hasS bad x with
      | true =>
        have HCT := Lib.hid (containsN ags Aa ca x w2 HC2.out.a)
        have HCB := Lib.hid (containsN bad Ab cb x w2 HC2.out.b)
        rw [hq] at HCT
        rw [hq2] at HCB
        have hRR : R = 5 := by rw [HR.out, if_pos rfl, hq, hq2]; rfl
        subst hRR
        have hraa : ra = [] := by rw [HRA.out, if_neg (by decide)]
        have hrbb : rb = [] := by rw [HRB.out, if_neg (by decide)]
        subst hraa hrbb
        clear hq hq2 HR HRA HRB
        go_wp2_with fail
        refine HCT.out.mono ?_; clear HCT
        rintro e w3 ⟨rfl, hw⟩
        subst hw
        go_wp2_with fail
        refine HCB.out.mono ?_; clear HCB
        rintro e w4 ⟨rfl, hw⟩
        subst hw
        go_wp2_with fail
        refine bodyPost_ret (v := .tuple #[.agg #[.slice none 0 0, .slice none 0 0], .int .i64 5]) ?_ rfl ?_
        · simp [results, Tryd.results34, go_sem, d0, d1, df]
        exact ⟨none, 0, none, 0, rfl, ⟨RepN.nil, RepN.nil⟩, (HB2.out.setCell (Nat.le_succ w.heap.size) _).setCell (Nat.le_succ w.heap.size) _⟩
      | false =>
        have HCT := Lib.hid (containsN ags Aa ca x w2 HC2.out.a)
        have HCB := Lib.hid (containsN bad Ab cb x w2 HC2.out.b)
        rw [hq] at HCT
        rw [hq2] at HCB
        have hRR : R = 0 := by rw [HR.out, if_pos rfl, hq, hq2]; rfl
        subst hRR
        have hraa : ra = ags := by rw [HRA.out, if_pos rfl]
        have hrbb : rb = revC ags bad x := by rw [HRB.out, if_pos rfl]
        subst hraa
        have HRB2 := Lib.hid hrbb
        have HGD6 := Lib.hid HGD.out.six
        have HCL := Lib.hid (cloneN ra Aa ca w2 HC2.out.a (by have := HGD6.out; omega))
        clear hq hq2 HR HRA HRB hrbb
        go_wp2_with fail
        refine HCT.out.mono ?_; clear HCT
        rintro e w3 ⟨rfl, hw⟩
        subst hw
        go_wp2_with fail
        refine HCB.out.mono ?_; clear HCB
        rintro e w4 ⟨rfl, hw⟩
        subst hw
        go_wp2_with fail
        refine HCL.out.mono ?_; clear HCL
        rintro e w5 ⟨v5, rfl, ho5, hb5⟩
        obtain ⟨A3, c3, rfl, hrep3⟩ := repV_own ho5
        have HN3 : Hid (RepN w5 (fun b => w.heap.size + 2 ≤ b ∧ b < w5.heap.size) ra A3 c3) := Lib.hid ((hrep3 (fun b => w.heap.size + 2 ≤ b ∧ b < w5.heap.size) (fun b h1 h2 _ => ⟨by have := HS2.out; omega, h2⟩)).toN (fun y hy => HC2.out.a.2.2.1 y hy)).2
        have HX5 : Hid (w5.heap[w.heap.size]? = some (boxC ra bad Aa ca Ab cb)) := Lib.hid (by rw [hb5.block _ (by have := HS2.out; omega)]; exact HX2.out)
        have HY5 : Hid (w5.heap[w.heap.size + 1]? = some (.cells #[.slice none 0 0, .slice none 0 0] 24 (0, 0))) := Lib.hid (by rw [hb5.block _ (by have := HS2.out; omega)]; exact HY2.out)
        have HB5 := Lib.hid (below_then HB2.out hb5 HB2.out.size)
        have HC5 := Lib.hid (HC2.out.below hb5)
        have HS5 : Hid (w.heap.size + 2 ≤ w5.heap.size) := Lib.hid (Nat.le_trans HS2.out hb5.size)
        clear ho5 hb5 hrep3 c0 c1 d0 d1 df HX2 HY2 HB2 HC2 HS2
        obtain ⟨c0, c1, -⟩ := boxC_cells HX5.out
        obtain ⟨W6, hW6⟩ : ∃ W6, W6 = w5.alloc (.cells #[.slice A3 ra.length c3, .slice none 0 0] 24) := ⟨_, rfl⟩
        have hb6 : Below w5.heap.size w5 W6 := by rw [hW6]; exact below1 (Nat.le_refl _) _
        have hx6 : W6.heap[w5.heap.size]? = some (.cells #[.slice A3 ra.length c3, .slice none 0 0] 24 (0, 0)) := by rw [hW6]; exact heap_alloc_new _ _
        have HI0 : Hid (RevIn w w5 W6 w5.heap.size ra bad Aa ca Ab cb A3 c3 x 0 (.slice none 0 0)) := Lib.hid ⟨hb6, hx6, World.ownsRow_nil _ _ _ _⟩
        have HW6 := Lib.hid hW6
        have HIS : Hid (∀ y ∈ ra, y.size ≤ maxLen) := Lib.hid (fun y hy => HC5.out.a.2.2.1 y hy)
        clear hW6 hb6 hx6
        have hx6 : W6.heap[w.heap.size]? = some (boxC ra bad Aa ca Ab cb) := by rw [HI0.out.below.block _ (by have := HS5.out; omega)]; exact HX5.out
        rw [HW6.out] at hx6
        obtain ⟨k0, k1, -⟩ := boxC_cells hx6
        clear hx6
        go_wp2_with fail
        rw [← HW6.out]
        clear c0 c1 k0 k1
        go_loopw [34] (fun i wr => ∃ (k : Nat) (v : Value), k ≤ ra.length ∧ i = .int .i64 k ∧ Hid (RevIn w w5 wr w5.heap.size ra bad Aa ca Ab cb A3 c3 x k v)) (fun i _ => ra.length - (intOf i).toNat)
        case atStart => exact ⟨0, _, Nat.zero_le _, rfl, HI0⟩
        case round =>
          obtain ⟨k, v, hk, rfl, HI⟩ := hrel
          have i1 : (0 : Int) ≤ (k : Int) := Int.natCast_nonneg _
          have h6 := HGD6.out
          have HCR := Lib.hid (HC5.out.below HI.out.below)
          have hbx : wr.heap[w.heap.size]? = some (boxC ra bad Aa ca Ab cb) := by rw [HI.out.below.block _ (by have := HS5.out; omega)]; exact HX5.out
          obtain ⟨c0, c1, -⟩ := boxC_cells hbx
          obtain ⟨e0, e1, ef⟩ := cast2_cells HI.out.box
          have HSR : Hid (w5.heap.size < wr.heap.size) := Lib.hid (Array.getElem?_eq_some_iff.1 HI.out.box).1
          clear hbx
          by_cases hlt : k < ra.length
          · have i2 : (k : Int) < (ra.length : Int) := by omega
            obtain ⟨b, off, hA, -, hcl⟩ := HCR.out.a.cells (by intro h; rw [h] at hlt; simp at hlt)
            subst hA
            have hck := hcl k hlt
            have hst := revN_succ ra bad x k hlt
            have hka : k ≤ ca := by have := HCR.out.a.1; omega
            have hnl := revN_length ra bad x k
            have HCB := Lib.hid (containsN bad Ab cb ra[k] wr HCR.out.b)
            obtain ⟨y, hy⟩ : ∃ y, y = ra[k] := ⟨_, rfl⟩
            rw [← hy] at hck hst HCB
            obtain ⟨g5, c5, w8, hap, ho8, hg8⟩ := row_add slStr HI.out.row (by have := HSR.out; omega) [.string y] rfl (strs_one [y]) (by have := HGD6.out; omega)
            have hz8 : w8.heap[w5.heap.size]? = some (.cells #[.slice A3 ra.length c3, v] 24 (0, 0)) := by
              rw [hg8.old _ HSR.out (fun e => by have := (HI.out.row.lt _ e).1; omega)]; exact HI.out.box
            obtain ⟨f0, f1, ff⟩ := cast2_cells hz8
            have hnext : (y = x ∨ hasS bad y = true) → RevIn w w5 (w8.setCell ⟨w5.heap.size, 1, none⟩ (.slice (some ⟨g5, 0, none⟩) ((revN ra bad x k).length + 1) c5)) w5.heap.size ra bad (some ⟨b, off, none⟩) ca Ab cb A3 c3 x (k + 1) (.slice (some ⟨g5, 0, none⟩) ((revN ra bad x k).length + 1) c5) := fun h => by
              rw [if_pos h] at hst
              refine ⟨(HI.out.below.trans (hg8.below.mono (Nat.le_succ _))).setCell (Nat.le_refl _) _, cast2_set1 hz8, ?_⟩
              rw [hst, List.length_append, show strs (revN ra bad x k ++ [y]) = strs (revN ra bad x k) ++ [.string y] by simp [strs]]
              exact own_keep ho8 (fun q hq => Below.heap_setCell _ _ _ _ (by have := (ho8.lt _ hq).1; show _ ≠ w5.heap.size; omega))
            have hskip : ¬ (y = x ∨ hasS bad y = true) → RevIn w w5 wr w5.heap.size ra bad (some ⟨b, off, none⟩) ca Ab cb A3 c3 x (k + 1) v := fun h => by
              rw [if_neg h] at hst
              exact ⟨HI.out.below, HI.out.box, by rw [hst]; exact HI.out.row⟩
            have HNX := Lib.hid hnext; have HSK := Lib.hid hskip
            clear hnext hskip hst hcl hg8 ho8 hz8 hy
            generalize hnn : (revN ra bad x k).length = nn at *
            clear hnn
            by_cases he : y = x
            · have hNX := Lib.hid (HNX.out (.inl he))
              subst he
              clear HNX HSK HCB
              go_wp2_with (at_builtin; refine wpList_run_append rfl _ _ rfl rfl rfl hap ?_)
              go_roundw
              case rel => exact ⟨k + 1, _, by omega, by go_num, hNX⟩
              case measure => simp [intOf]; omega
            · have hb : (y.toList == x.toList) = false := by rw [Lib.bytes_beq_false_iff]; exact he
              have hb2 : ¬ y.toList = x.toList := by rw [← beq_iff_eq, hb]; simp
              cases hh : hasS bad y with
              | true =>
                have hNX := Lib.hid (HNX.out (.inr hh))
                rw [hh] at HCB
                clear HNX HSK hh he
                go_wp2_with fail
                refine HCB.out.mono ?_; clear HCB
                rintro e w9 ⟨rfl, hw⟩
                subst hw
                go_wp2_with (at_builtin; refine wpList_run_append rfl _ _ rfl rfl rfl hap ?_)
                go_roundw
                case rel => exact ⟨k + 1, _, by omega, by go_num, hNX⟩
                case measure => simp [intOf]; omega
              | false =>
                have hNX := Lib.hid (HSK.out (by rw [hh]; simp [he]))
                rw [hh] at HCB
                clear HNX HSK hh he hap f0 f1 ff
                go_wp2_with fail
                refine HCB.out.mono ?_; clear HCB
                rintro e w9 ⟨rfl, hw⟩
                subst hw
                go_wp2_with fail
                go_roundw
                case rel => exact ⟨k + 1, _, by omega, by go_num, hNX⟩
                case measure => simp [intOf]; omega
          · obtain rfl : k = ra.length := by omega
            have hrow := HI.out.row
            rw [revN_all, ← HRB2.out] at hrow
            obtain ⟨A7, c7, rfl, hrep7⟩ := repV_own hrow
            have hy7 : wr.heap[w.heap.size + 1]? = some (.cells #[.slice none 0 0, .slice none 0 0] 24 (0, 0)) := by rw [HI.out.below.block _ (by have := HS5.out; omega)]; exact HY5.out
            have HN7 : Hid (RepN wr (fun b => w.heap.size + 2 ≤ b ∧ b < wr.heap.size) rb A7 c7) := Lib.hid ((hrep7 (fun b => w.heap.size + 2 ≤ b ∧ b < wr.heap.size) (fun b h1 h2 _ => ⟨by have := HS5.out; omega, h2⟩)).toN (fun y hy => HIS.out y (by rw [HRB2.out] at hy; exact revC_mem hy))).2
            have HN3r : Hid (RepN wr (fun b => w.heap.size + 2 ≤ b ∧ b < wr.heap.size) ra A3 c3) := Lib.hid (RepN.mono (fun b h => ⟨h.1, by have := HSR.out; omega⟩) (fun p hp => HI.out.below.cell hp.2) HN3.out)
            have HBR := Lib.hid (HB5.out.trans (HI.out.below.mono (by have := HS5.out; omega)))
            obtain ⟨d0, d1, df⟩ := cast2_cells hy7
            clear hrow hrep7 hy7
            go_wp2_with fail
            refine bodyPost_ret (v := .tuple #[.agg #[.slice A3 ra.length c3, .slice A7 rb.length c7], .int .i64 0]) ?_ rfl ?_
            · simp [results, Tryd.results34, go_sem, d0, d1, df]
            refine ⟨A3, c3, A7, c7, rfl, ⟨RepN.mono (fun b h => ?_) (fun p hp => ?_) HN3r.out, RepN.mono (fun b h => ?_) (fun p hp => ?_) HN7.out⟩, (HBR.out.setCell (Nat.le_succ w.heap.size) _).setCell (Nat.le_succ w.heap.size) _⟩
            · simpa [World.setCell] using h.2
            · rw [World.cell?_setCell_other _ _ _ _ (fun e => by rw [← e] at hp; have := hp.1; simp at this), World.cell?_setCell_other _ _ _ _ (fun e => by rw [← e] at hp; have := hp.1; simp at this)]
            · simpa [World.setCell] using h.2
            · rw [World.cell?_setCell_other _ _ _ _ (fun e => by rw [← e] at hp; have := hp.1; simp at this), World.cell?_setCell_other _ _ _ _ (fun e => by rw [← e] at hp; have := hp.1; simp at this)]
  · have hb : (E != 0) = true := by rw [bne_iff_ne]; exact h0
    have hRR : R = E := by rw [HR.out, if_neg h0]
    subst hRR
    have hraa : ra = [] := by rw [HRA.out, if_neg h0]
    have hrbb : rb = [] := by rw [HRB.out, if_neg h0]
    subst hraa hrbb
    clear HR HRA HRB HG h0
    go_wp2_with fail
    refine bodyPost_ret (v := .tuple #[.agg #[.slice none 0 0, .slice none 0 0], .int .i64 R]) ?_ rfl ?_
    · simp [results, Tryd.results34, go_sem, d0, d1, df]
    exact ⟨none, 0, none, 0, rfl, ⟨RepN.nil, RepN.nil⟩, (HB2.out.setCell (Nat.le_succ w.heap.size) _).setCell (Nat.le_succ w.heap.size) _⟩
end Go.Proofs.YtpjmdilpldaapaaDoor
