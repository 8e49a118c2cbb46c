/- The reference's Valid and Honest of casts. -/
import Derived.Test.YtpjmdilpldaapaaDoorCfind
import Derived.Test.YtpjmdilpldaapaaDoorGe
namespace Go.Proofs.YtpjmdilpldaapaaDoor
open Go.RowKit Go.Sort

set_option maxHeartbeats 2000000 in
set_option maxRecDepth 100000 in
theorem rcvalid_any (ags bad : List ByteArray) (Aa Ab : Option Addr) (ca cb : Nat) (w : World) (hc : CastW w ags bad Aa ca Ab cb) :
    Calls Tryd.prog 24 #[castV ags bad Aa ca Ab cb] w fun e w' => e = .returned (.int .i64 (castE ags bad)) ∧ Lay w.heap.size w w' := by
  have mixed : Tryd.prog.follows .mixedOrders = true := by kernel_rfl
  obtain ⟨W0, hW0⟩ : ∃ W0, W0 = w.alloc (.cells #[.slice Aa ags.length ca, .slice Ab bad.length cb] 24) := ⟨_, rfl⟩
  have hl0 : Lay w.heap.size w W0 := by rw [hW0]; exact (Lay.refl _ _).alloc (Nat.le_refl _) _
  have hx0 : W0.heap[w.heap.size]? = some (boxC ags bad Aa ca Ab cb) := by rw [hW0]; exact heap_alloc_new _ _
  have hs0 : w.heap.size < W0.heap.size := by rw [hW0]; simp
  have hc0 := hc.below hl0.below
  obtain ⟨b0, b1, -⟩ := boxC_cells hx0
  have hal := hc.a.1
  have ham := hc.a.2.1
  have hbl := hc.b.1
  have hbm := hc.b.2.1
  unfold maxLen at ham hbm
  have HL0 := Lib.hid hl0; have HX0 := Lib.hid hx0; have HS0 := Lib.hid hs0; have HC0 := Lib.hid hc0; have HW0 := Lib.hid hW0
  clear hl0 hx0 hs0 hc0 hW0 hc
  unfold castV
  obtain ⟨E, hE⟩ : ∃ E, E = castE ags bad := ⟨_, rfl⟩
  rw [← hE]
  have HE := Lib.hid hE; clear hE
  by_cases h0 : ags.length = 0
  · have hE0 : E = 8 := by rw [HE.out]; unfold castE; rw [if_pos h0]
    subst hE0
    go_enter Tryd.func24, Tryd.ntmps24
    go_wp2_with fail
    go_ret
    exact ⟨rfl, by have := HL0.out; rw [HW0.out, h0] at this; exact this⟩
  by_cases h6 : 6 < ags.length
  · have hE0 : E = 3 := by rw [HE.out]; unfold castE; rw [if_neg h0, if_pos h6]
    subst hE0
    go_enter Tryd.func24, Tryd.ntmps24
    go_wp2_with fail
    go_ret
    exact ⟨rfl, by have := HL0.out; rw [HW0.out] at this; exact this⟩
  have HE2 : Hid (E = if agE [] ags ≠ 0 then agE [] ags else badE ags (-1) bad) := by
    show _ = _; rw [HE.out]; unfold castE; rw [if_neg h0, if_neg h6]
  clear HE
  have e9 : ((ags.length : Int) == 0) = false := by rw [beq_eq_false_iff_ne]; omega
  go_enter Tryd.func24, Tryd.ntmps24
  go_wp2_with fail
  rw [← HW0.out]
  go_loopw [3] (fun i wr => ∃ k : Nat, k ≤ ags.length ∧ i = .int .i64 k ∧ Hid (Lay w.heap.size w wr) ∧ Hid (Lay W0.heap.size W0 wr) ∧ Hid (agE [] ags = agE (ags.take k) (ags.drop k))) (fun i _ => ags.length - (intOf i).toNat)
  case atStart => exact ⟨0, Nat.zero_le _, rfl, HL0.out, Lay.refl _ _, rfl⟩
  case round =>
    obtain ⟨k, hk, rfl, HL, HLW, HA⟩ := hrel
    have i1 : (0 : Int) ≤ (k : Int) := Int.natCast_nonneg _
    have hcw := HC0.out.below HLW.out.below
    have hbx : wr.heap[w.heap.size]? = some (boxC ags bad Aa ca Ab cb) := by rw [HLW.out.below.block _ HS0.out]; exact HX0.out
    obtain ⟨b0', b1', -⟩ := boxC_cells hbx
    by_cases hlt : k < ags.length
    · have i2 : (k : Int) < (ags.length : Int) := by omega
      obtain ⟨b, off, hAa, hbl, hcl⟩ := hcw.a.cells (by intro h; rw [h] at hlt; simp at hlt)
      subst hAa
      have hck := hcl k hlt
      have hsz := hcw.a.2.2.1 ags[k] (List.getElem_mem hlt)
      have hst := HA.out.trans (agE_at ags k hlt)
      have hpb := posS_bound (ags.take k) ags[k]
      have hct : ∀ X, Lay wr.heap.size wr X → Calls Tryd.prog 66 #[.slice (some ⟨b, off, none⟩) k ca, .string ags[k]] X fun e w' => e = .returned (.int .i64 (posS (ags.take k) ags[k])) ∧ w' = X := fun X hX => by
        have := find_any (ags.take k) _ ca ags[k] X ((hcw.a.take k hk).go hX.below hX.size)
        rw [List.length_take, Nat.min_eq_left hk] at this
        exact this
      obtain ⟨a, ha⟩ : ∃ a, a = ags[k] := ⟨_, rfl⟩
      obtain ⟨q, hq⟩ : ∃ q, q = posS (ags.take k) ags[k] := ⟨_, rfl⟩
      rw [hasS_pos, ← hq, ← ha] at hst
      rw [← hq] at hct hpb
      rw [← ha] at hck hsz hct
      have HST := Lib.hid hst; clear hst
      have HCT := Lib.hid hct; clear hct
      have HSZ := Lib.hid hsz; clear hsz
      clear ha hq hcl HA hcw
      have hka : k ≤ ca := by omega
      have AT := Lib.hid (fun X => risName_any a X HSZ.out)
      have HSH := Lib.hid (fun X => rhash_any a X HSZ.out)
      cases hq : nameL a.data.toList with
      | false =>
        rw [hq] at AT HST
        clear hq
        have hE2 : E = 2 := by
          rw [HE2.out, HST.out, if_pos (Or.inl rfl)]; rfl
        subst hE2
        clear HST HE2 HCT
        go_wp2_with fail
        refine (AT.out wr).mono ?_
        rintro e w3 ⟨rfl, rfl⟩
        go_wp2_with fail
        go_ret
        exact ⟨rfl, HL.out⟩
      | true =>
        rw [hq] at AT HST
        clear hq
        cases hh : hashB a with
        | true =>
          rw [hh] at HSH HST
          have hE2 : E = 2 := by
            rw [HE2.out, HST.out, if_pos (Or.inr rfl)]; rfl
          subst hE2
          clear HST HE2 HCT hh
          go_wp2_with fail
          refine (AT.out wr).mono ?_
          rintro e w3 ⟨rfl, rfl⟩
          go_wp2_with fail
          refine (HSH.out _).mono ?_
          rintro e w4 ⟨rfl, rfl⟩
          go_wp2_with fail
          go_ret
          exact ⟨rfl, HL.out⟩
        | false =>
          rw [hh] at HSH HST
          rw [if_neg (by simp)] at HST
          clear hh
          by_cases hd : 0 ≤ q
          · have h5 : agE [] ags = 5 := HST.out.trans (if_pos (decide_eq_true hd))
            have hE2 : E = 5 := by
              rw [HE2.out, h5]; rfl
            subst hE2
            have hd2 : decide (0 ≤ q) = true := decide_eq_true hd
            clear HST HE2 h5
            go_wp2_with fail
            refine (AT.out wr).mono ?_
            rintro e w3 ⟨rfl, rfl⟩
            go_wp2_with fail
            refine (HSH.out _).mono ?_
            rintro e w4 ⟨rfl, rfl⟩
            have HCT := Lib.hid (fun n => HCT.out (w4.drewN n) ((Lay.refl _ _).drewN n))
            go_wp2_with fail
            go_quiet ((go_at_call 66; exact Calls.quiet_of_same (HCT.out _)))
            go_wp2_with fail
            go_ret
            exact ⟨rfl, HL.out.drewN _⟩
          · have hd2 : decide (0 ≤ q) = false := decide_eq_false hd
            rw [if_neg (by simpa using hd)] at HST
            go_wp2_with fail
            refine (AT.out wr).mono ?_
            rintro e w3 ⟨rfl, rfl⟩
            go_wp2_with fail
            refine (HSH.out _).mono ?_
            rintro e w4 ⟨rfl, rfl⟩
            have HCT := Lib.hid (fun n => HCT.out (w4.drewN n) ((Lay.refl _ _).drewN n))
            go_wp2_with fail
            go_quiet ((go_at_call 66; exact Calls.quiet_of_same (HCT.out _)))
            go_wp2_with fail
            go_roundw
            case rel => exact ⟨k + 1, by omega, by go_num, HL.out.drewN _, HLW.out.drewN _, HST.out⟩
            case measure => simp [intOf]; omega
    · obtain rfl : k = ags.length := by omega
      have hag : agE [] ags = 0 := by rw [HA.out, List.drop_length]; rw [agE]
      have HE3 : Hid (E = badE ags (-1) bad) := by show _ = _; rw [HE2.out, if_neg (by rw [hag]; simp)]
      have HCW := Lib.hid hcw
      have HBX := Lib.hid hbx
      clear hag HE2 hcw hbx HA
      go_wp2_with fail
      generalize wr = wo at *
      go_loopw [4, 5] (fun last i wr => ∃ (k : Nat) (z : Int), k ≤ bad.length ∧ i = .int .i64 k ∧ last = .int .i64 z ∧ Hid (-1 ≤ z ∧ z < 1000) ∧ Hid (Lay w.heap.size w wr) ∧ Hid (Lay wo.heap.size wo wr) ∧ Hid (badE ags (-1) bad = badE ags z (bad.drop k))) (fun _ i _ => bad.length - (intOf i).toNat)
      case atStart => exact ⟨0, -1, Nat.zero_le _, rfl, rfl, ⟨by omega, by omega⟩, HL.out, Lay.refl _ _, rfl⟩
      case round =>
        obtain ⟨k, z, hk, rfl, rfl, HZ, HL', HLO, HA⟩ := hrel
        have i3 : (0 : Int) ≤ (k : Int) := Int.natCast_nonneg _
        have hcw := HCW.out.below HLO.out.below
        have hbx : wr.heap[w.heap.size]? = some (boxC ags bad Aa ca Ab cb) := by rw [HLO.out.below.block _ (by have := HS0.out; have := HLW.out.size; omega)]; exact HBX.out
        obtain ⟨c0, c1, -⟩ := boxC_cells hbx
        by_cases hlt : k < bad.length
        · have i4 : (k : Int) < (bad.length : Int) := by omega
          obtain ⟨b, off, hAb, hbl, hcl⟩ := hcw.b.cells (by intro h; rw [h] at hlt; simp at hlt)
          subst hAb
          have hck := hcl k hlt
          have hst := HA.out.trans (badE_at ags bad z k hlt)
          have HIX := Lib.hid (fun n => find_any ags Aa ca bad[k] (wr.drewN n) (hcw.a.go ((Lay.refl wr.heap.size wr).drewN n).below (Nat.le_refl _)))
          have hpb := posS_bound ags bad[k]
          obtain ⟨a, ha⟩ : ∃ a, a = bad[k] := ⟨_, rfl⟩
          obtain ⟨q, hq⟩ : ∃ q, q = posS ags a := ⟨_, rfl⟩
          rw [← ha] at hck hst HIX hpb
          rw [← hq] at hst HIX hpb
          have HST := Lib.hid hst; clear hst
          clear ha hcl HA hcw hq hbx
          have hz := HZ.out
          by_cases h1 : q < 0
          · have hE2 : E = 4 := by rw [HE3.out, HST.out, if_pos h1]
            subst hE2
            clear HE3 HST
            go_wp2_with fail
            go_quiet ((go_at_call 66; exact Calls.quiet_of_same (HIX.out _)))
            go_wp2_with fail
            go_ret
            exact ⟨rfl, HL'.out.drewN _⟩
          · by_cases h2 : q ≤ z
            · have hE2 : E = 5 := by rw [HE3.out, HST.out, if_neg h1, if_pos h2]
              subst hE2
              clear HE3 HST
              go_wp2_with fail
              go_quiet ((go_at_call 66; exact Calls.quiet_of_same (HIX.out _)))
              go_wp2_with fail
              go_ret
              exact ⟨rfl, HL'.out.drewN _⟩
            · have HN : Hid (badE ags (-1) bad = badE ags q (bad.drop (k + 1))) := by show _ = _; rw [HST.out, if_neg h1, if_neg h2]
              clear HST
              go_wp2_with fail
              go_quiet ((go_at_call 66; exact Calls.quiet_of_same (HIX.out _)))
              go_wp2_with fail
              go_roundw
              case rel => exact ⟨k + 1, q, by omega, by go_num, rfl, ⟨by omega, by omega⟩, HL'.out.drewN _, HLO.out.drewN _, HN.out⟩
              case measure => simp [intOf]; omega
        · obtain rfl : k = bad.length := by omega
          have hE2 : E = 0 := by rw [HE3.out, HA.out, List.drop_length]; rw [badE]
          subst hE2
          clear HE3
          go_wp2_with fail
          go_ret
          exact ⟨rfl, HL'.out⟩

set_option maxHeartbeats 1000000 in
set_option maxRecDepth 100000 in
theorem chonest_any (ags bad : List ByteArray) (Aa Ab : Option Addr) (ca cb : Nat) (x : ByteArray) (w : World) (hc : CastW w ags bad Aa ca Ab cb) :
    Calls Tryd.prog 25 #[castV ags bad Aa ca Ab cb, .string x] w fun e w' => e = .returned (.bool (honestC ags bad x)) ∧ Lay w.heap.size w w' := by
  have mixed : Tryd.prog.follows .mixedOrders = true := by kernel_rfl
  obtain ⟨W0, hW0⟩ : ∃ W0, W0 = w.alloc (.cells #[.slice Aa ags.length ca, .slice Ab bad.length cb] 24) := ⟨_, rfl⟩
  have hl0 : Lay w.heap.size w W0 := by rw [hW0]; exact (Lay.refl _ _).alloc (Nat.le_refl _) _
  have hx0 : W0.heap[w.heap.size]? = some (boxC ags bad Aa ca Ab cb) := by rw [hW0]; exact heap_alloc_new _ _
  have hs0 : w.heap.size < W0.heap.size := by rw [hW0]; simp
  have HC0 := Lib.hid (hc.below hl0.below)
  obtain ⟨b0, b1, -⟩ := boxC_cells hx0
  have HV := Lib.hid (cvalid_any ags bad Aa Ab ca cb W0 HC0.out)
  have HL0 := Lib.hid hl0; have HX0 := Lib.hid hx0; have HS0 := Lib.hid hs0; have HW0 := Lib.hid hW0
  clear hl0 hx0 hs0 hW0 hc
  unfold castV at HV ⊢
  obtain ⟨E, hE⟩ : ∃ E, E = castE ags bad := ⟨_, rfl⟩
  obtain ⟨r, hr⟩ : ∃ r, r = honestC ags bad x := ⟨_, rfl⟩
  rw [← hr]
  have hr2 : r = (decide (E = 0) && hasS ags x && !hasS bad x) := by rw [hr, hE]; rfl
  rw [← hE] at HV
  have HR := Lib.hid hr2; clear hr hr2 hE
  go_enter Tryd.func25, Tryd.ntmps25
  go_wp2_with fail
  rw [← HW0.out]
  refine HV.out.mono ?_
  rintro e w2 ⟨rfl, hl2⟩
  have hbx2 : w2.heap[w.heap.size]? = some (boxC ags bad Aa ca Ab cb) := by rw [hl2.below.block _ HS0.out]; exact HX0.out
  obtain ⟨c0, c1, -⟩ := boxC_cells hbx2
  have hc2 := HC0.out.below hl2.below
  have HL2 := Lib.hid (HL0.out.trans (hl2.mono HL0.out.size))
  clear hl2 hbx2 b0 b1
  by_cases h0 : E = 0
  · subst h0
    have HA := Lib.hid (containsN ags Aa ca x w2 hc2.a)
    have HB := Lib.hid (containsN bad Ab cb x w2 hc2.b)
    clear hc2
    cases h1 : hasS ags x with
    | true =>
      rw [h1] at HA HR
      cases h2 : hasS bad x with
      | true =>
        rw [h2] at HB HR
        have hr3 : r = false := by rw [HR.out]; rfl
        subst hr3
        clear HR h1 h2
        go_wp2_with fail
        refine HA.out.mono ?_
        rintro e w3 ⟨rfl, rfl⟩
        go_wp2_with fail
        refine HB.out.mono ?_
        rintro e w4 ⟨rfl, rfl⟩
        go_wp2_with fail
        go_ret
        exact ⟨rfl, HL2.out⟩
      | false =>
        rw [h2] at HB HR
        have hr3 : r = true := by rw [HR.out]; rfl
        subst hr3
        clear HR h1 h2
        go_wp2_with fail
        refine HA.out.mono ?_
        rintro e w3 ⟨rfl, rfl⟩
        go_wp2_with fail
        refine HB.out.mono ?_
        rintro e w4 ⟨rfl, rfl⟩
        go_wp2_with fail
        go_ret
        exact ⟨rfl, HL2.out⟩
    | false =>
      rw [h1] at HA HR
      have hr3 : r = false := by rw [HR.out]; rfl
      subst hr3
      clear HR h1
      go_wp2_with fail
      refine HA.out.mono ?_
      rintro e w3 ⟨rfl, rfl⟩
      go_wp2_with fail
      go_ret
      exact ⟨rfl, HL2.out⟩
  · have hb : (E == 0) = false := by rw [beq_eq_false_iff_ne]; exact h0
    have hr3 : r = false := by rw [HR.out, decide_eq_false h0]; rfl
    subst hr3
    clear HR HV h0
    go_wp2_with fail
    go_ret
    exact ⟨rfl, HL2.out⟩

set_option maxHeartbeats 1000000 in
set_option maxRecDepth 100000 in
theorem rchonest_any (ags bad : List ByteArray) (Aa Ab : Option Addr) (ca cb : Nat) (x : ByteArray) (w : World) (hc : CastW w ags bad Aa ca Ab cb) :
    Calls Tryd.prog 26 #[castV ags bad Aa ca Ab cb, .string x] w fun e w' => e = .returned (.bool (honestC ags bad x)) ∧ Lay w.heap.size w w' := by
  have mixed : Tryd.prog.follows .mixedOrders = true := by kernel_rfl
  obtain ⟨W0, hW0⟩ : ∃ W0, W0 = w.alloc (.cells #[.slice Aa ags.length ca, .slice Ab bad.length cb] 24) := ⟨_, rfl⟩
  have hl0 : Lay w.heap.size w W0 := by rw [hW0]; exact (Lay.refl _ _).alloc (Nat.le_refl _) _
  have hx0 : W0.heap[w.heap.size]? = some (boxC ags bad Aa ca Ab cb) := by rw [hW0]; exact heap_alloc_new _ _
  have hs0 : w.heap.size < W0.heap.size := by rw [hW0]; simp
  have HC0 := Lib.hid (hc.below hl0.below)
  obtain ⟨b0, b1, -⟩ := boxC_cells hx0
  have HV := Lib.hid (rcvalid_any ags bad Aa Ab ca cb W0 HC0.out)
  have HL0 := Lib.hid hl0; have HX0 := Lib.hid hx0; have HS0 := Lib.hid hs0; have HW0 := Lib.hid hW0
  clear hl0 hx0 hs0 hW0 hc
  unfold castV at HV ⊢
  obtain ⟨E, hE⟩ : ∃ E, E = castE ags bad := ⟨_, rfl⟩
  obtain ⟨r, hr⟩ : ∃ r, r = honestC ags bad x := ⟨_, rfl⟩
  rw [← hr]
  have hr2 : r = (decide (E = 0) && hasS ags x && !hasS bad x) := by rw [hr, hE]; rfl
  rw [← hE] at HV
  have HR := Lib.hid hr2; clear hr hr2 hE
  go_enter Tryd.func26, Tryd.ntmps26
  go_wp2_with fail
  rw [← HW0.out]
  refine HV.out.mono ?_
  rintro e w2 ⟨rfl, hl2⟩
  have hbx2 : w2.heap[w.heap.size]? = some (boxC ags bad Aa ca Ab cb) := by rw [hl2.below.block _ HS0.out]; exact HX0.out
  obtain ⟨c0, c1, -⟩ := boxC_cells hbx2
  have hc2 := HC0.out.below hl2.below
  have HL2 := Lib.hid (HL0.out.trans (hl2.mono HL0.out.size))
  clear hl2 hbx2 b0 b1
  by_cases h0 : E = 0
  · subst h0
    have HA := Lib.hid (find_any ags Aa ca x w2 hc2.a)
    have HB := Lib.hid (find_any bad Ab cb x w2 hc2.b)
    clear hc2
    obtain ⟨p, hp⟩ : ∃ p, p = posS ags x := ⟨_, rfl⟩
    obtain ⟨q, hq⟩ : ∃ q, q = posS bad x := ⟨_, rfl⟩
    have HR2 : Hid (r = (decide (0 ≤ p) && !decide (0 ≤ q))) := by
      show _ = _; rw [HR.out, hasS_pos, hasS_pos, ← hp, ← hq]; rfl
    rw [← hp] at HA
    rw [← hq] at HB
    clear hp hq HR
    by_cases h1 : 0 ≤ p
    · have d1 : decide (0 ≤ p) = true := decide_eq_true h1
      by_cases h2 : 0 ≤ q
      · have hr3 : r = false := by rw [HR2.out, d1, decide_eq_true h2]; rfl
        have d2 : decide (q < 0) = false := decide_eq_false (by omega)
        subst hr3
        clear HR2
        go_wp2_with fail
        refine HA.out.mono ?_
        rintro e w3 ⟨rfl, rfl⟩
        go_wp2_with fail
        refine HB.out.mono ?_
        rintro e w4 ⟨rfl, rfl⟩
        go_wp2_with fail
        go_ret
        exact ⟨rfl, HL2.out⟩
      · have hr3 : r = true := by rw [HR2.out, d1, decide_eq_false h2]; rfl
        have d2 : decide (q < 0) = true := decide_eq_true (by omega)
        subst hr3
        clear HR2
        go_wp2_with fail
        refine HA.out.mono ?_
        rintro e w3 ⟨rfl, rfl⟩
        go_wp2_with fail
        refine HB.out.mono ?_
        rintro e w4 ⟨rfl, rfl⟩
        go_wp2_with fail
        go_ret
        exact ⟨rfl, HL2.out⟩
    · have d1 : decide (0 ≤ p) = false := decide_eq_false h1
      have hr3 : r = false := by rw [HR2.out, d1]; rfl
      subst hr3
      clear HR2
      go_wp2_with fail
      refine HA.out.mono ?_
      rintro e w3 ⟨rfl, rfl⟩
      go_wp2_with fail
      go_ret
      exact ⟨rfl, HL2.out⟩
  · have hb : (E == 0) = false := by rw [beq_eq_false_iff_ne]; exact h0
    have hr3 : r = false := by rw [HR.out, decide_eq_false h0]; rfl
    subst hr3
    clear HR HV h0
    go_wp2_with fail
    go_ret
    exact ⟨rfl, HL2.out⟩
end Go.Proofs.YtpjmdilpldaapaaDoor
