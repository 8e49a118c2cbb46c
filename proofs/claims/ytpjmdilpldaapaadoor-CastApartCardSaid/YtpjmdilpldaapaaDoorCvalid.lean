/- cast.Valid and cast.Honest. -/
import Derived.Test.YtpjmdilpldaapaaDoorCterm
namespace Go.Proofs.YtpjmdilpldaapaaDoor
open Go.RowKit Go.Sort

def boxC (ags bad : List ByteArray) (Aa : Option Addr) (ca : Nat) (Ab : Option Addr) (cb : Nat) : Obj := .cells #[.slice Aa ags.length ca, .slice Ab bad.length cb] 24
/-- A cast, its agents and bad ones in blocks that are there. -/
structure CastW (w : World) (ags bad : List ByteArray) (Aa : Option Addr) (ca : Nat) (Ab : Option Addr) (cb : Nat) : Prop where
  a : RepN w (fun b => b < w.heap.size) ags Aa ca
  b : RepN w (fun b => b < w.heap.size) bad Ab cb
theorem CastW.below {w w' : World} {ags bad : List ByteArray} {Aa Ab : Option Addr} {ca cb : Nat} (h : CastW w ags bad Aa ca Ab cb) (hb : Below w.heap.size w w') : CastW w' ags bad Aa ca Ab cb :=
  ⟨h.a.go hb hb.size, h.b.go hb hb.size⟩
theorem boxC_cells {W : World} {B : Nat} {ags bad : List ByteArray} {Aa Ab : Option Addr} {ca cb : Nat} (h : W.heap[B]? = some (boxC ags bad Aa ca Ab cb)) :
    W.cell? ⟨B, 0, none⟩ = some (.slice Aa ags.length ca) ∧ W.cell? ⟨B, 1, none⟩ = some (.slice Ab bad.length cb) ∧ ∀ o, W.frozen? ⟨B, o, none⟩ = false := by
  unfold boxC at h
  refine ⟨?_, ?_, fun o => ?_⟩ <;> simp [World.cell?, World.frozen?, h]
theorem agT_valid (a : ByteArray) : (agT a).valid = if nameL a.data.toList = true then 0 else 2 := by
  have hc : (Tm.mk 2 a 1 []).check = if nameL a.data.toList = false then 2 else 0 := by
    rw [Tm.check, if_pos (Or.inr rfl), if_neg (show ¬((1 : Int) < 0 ∨ (5 : Int) < 1 ∨ ([] : List Tm) ≠ []) by simp)]
  unfold Tm.valid agT
  rw [hc]
  cases nameL a.data.toList with
  | true => simp [Tm.size, Tm.sizes, Tm.depth, Tm.depths]
  | false => simp
theorem agT_call (a : ByteArray) (w : World) (ha : a.size ≤ maxLen) : Calls Tryd.prog 60 #[.agg #[.int .i64 2, .string a, .int .i64 1, .slice none 0 0]] w fun e w' =>
    e = .returned (.int .i64 (if nameL a.data.toList = true then 0 else 2)) ∧ Lay w.heap.size w w' := by
  rw [← agT_valid]
  exact valid_any (agT a) none 0 w (by simp [agT, Tm.size, Tm.sizes]) (rep_ag ha)

set_option maxHeartbeats 2000000 in
set_option maxRecDepth 100000 in
theorem cvalid_any (ags bad : List ByteArray) (Aa Ab : Option Addr) (ca cb : Nat) (w : World) (hc : CastW w ags bad Aa ca Ab cb) :
    Calls Tryd.prog 23 #[castV ags bad Aa ca Ab cb] w fun e w' => e = .returned (.int .i64 (castE ags bad)) ∧ Lay w.heap.size w w' := by
  obtain ⟨W0, hW0⟩ : ∃ W0, W0 = w.alloc (.cells #[.slice Aa ags.length ca, .slice Ab bad.length cb] 24) := ⟨_, rfl⟩
  have hl0 : Lay w.heap.size w W0 := by rw [hW0]; exact (Lay.refl _ _).alloc (Nat.le_refl _) _
  have hx0 : W0.heap[w.heap.size]? = some (boxC ags bad Aa ca Ab cb) := by rw [hW0]; exact heap_alloc_new _ _
  have hs0 : w.heap.size < W0.heap.size := by rw [hW0]; simp
  have hc0 := hc.below hl0.below
  obtain ⟨b0, b1, -⟩ := boxC_cells hx0
  have hal := hc.a.1
  have ham := hc.a.2.1
  have hbl := hc.b.1
  have hbm := hc.b.2.1
  unfold maxLen at ham hbm
  have HL0 := Lib.hid hl0; have HX0 := Lib.hid hx0; have HS0 := Lib.hid hs0; have HC0 := Lib.hid hc0; have HW0 := Lib.hid hW0
  clear hl0 hx0 hs0 hc0 hW0 hc
  unfold castV
  obtain ⟨E, hE⟩ : ∃ E, E = castE ags bad := ⟨_, rfl⟩
  rw [← hE]
  have HE := Lib.hid hE; clear hE
  by_cases h0 : ags.length = 0
  · have hE0 : E = 8 := by rw [HE.out]; unfold castE; rw [if_pos h0]
    subst hE0
    go_enter Tryd.func23, Tryd.ntmps23
    go_wp2_with fail
    go_ret
    exact ⟨rfl, by have := HL0.out; rw [HW0.out, h0] at this; exact this⟩
  by_cases h6 : 6 < ags.length
  · have hE0 : E = 3 := by rw [HE.out]; unfold castE; rw [if_neg h0, if_pos h6]
    subst hE0
    go_enter Tryd.func23, Tryd.ntmps23
    go_wp2_with fail
    go_ret
    exact ⟨rfl, by have := HL0.out; rw [HW0.out] at this; exact this⟩
  have HE2 : Hid (E = if agE [] ags ≠ 0 then agE [] ags else badE ags (-1) bad) := by
    show _ = _; rw [HE.out]; unfold castE; rw [if_neg h0, if_neg h6]
  clear HE
  have e9 : ((ags.length : Int) == 0) = false := by rw [beq_eq_false_iff_ne]; omega
  go_enter Tryd.func23, Tryd.ntmps23
  go_wp2_with fail
  rw [← HW0.out]
  go_loopw [22] (fun i wr => ∃ k : Nat, k ≤ ags.length ∧ i = .int .i64 k ∧ Hid (Lay w.heap.size w wr) ∧ Hid (Lay W0.heap.size W0 wr) ∧ Hid (agE [] ags = agE (ags.take k) (ags.drop k))) (fun i _ => ags.length - (intOf i).toNat)
  case atStart => exact ⟨0, Nat.zero_le _, rfl, HL0.out, Lay.refl _ _, rfl⟩
  case round =>
    obtain ⟨k, hk, rfl, HL, HLW, HA⟩ := hrel
    have i1 : (0 : Int) ≤ (k : Int) := Int.natCast_nonneg _
    have hcw := HC0.out.below HLW.out.below
    have hbx : wr.heap[w.heap.size]? = some (boxC ags bad Aa ca Ab cb) := by rw [HLW.out.below.block _ HS0.out]; exact HX0.out
    obtain ⟨b0', b1', -⟩ := boxC_cells hbx
    by_cases hlt : k < ags.length
    · have i2 : (k : Int) < (ags.length : Int) := by omega
      obtain ⟨b, off, hAa, hbl, hcl⟩ := hcw.a.cells (by intro h; rw [h] at hlt; simp at hlt)
      subst hAa
      have hck := hcl k hlt
      have hsz := hcw.a.2.2.1 ags[k] (List.getElem_mem hlt)
      have hst := HA.out.trans (agE_at ags k hlt)
      have hct : ∀ X, Lay wr.heap.size wr X → Calls Tryd.prog 43 #[.slice (some ⟨b, off, none⟩) k ca, .string ags[k]] X fun e w' => e = .returned (.bool (hasS (ags.take k) ags[k])) ∧ w' = X := fun X hX => by
        have := containsN (ags.take k) _ ca ags[k] X ((hcw.a.take k hk).go hX.below hX.size)
        rw [List.length_take, Nat.min_eq_left hk] at this
        exact this
      obtain ⟨a, ha⟩ : ∃ a, a = ags[k] := ⟨_, rfl⟩
      rw [← ha] at hck hsz hst hct
      have HST := Lib.hid hst; clear hst
      have HCT := Lib.hid hct; clear hct
      have HSZ := Lib.hid hsz; clear hsz
      clear ha hcl HA hcw
      have hka : k ≤ ca := by omega
      have AT := Lib.hid (fun X => agT_call a X HSZ.out)
      have HSH := Lib.hid (fun X => hashN a X)
      cases hq : nameL a.data.toList with
      | false =>
        rw [hq] at AT HST
        clear hq
        have hE2 : E = 2 := by
          rw [HE2.out, HST.out, if_pos (Or.inl rfl)]; rfl
        subst hE2
        simp only [Bool.false_eq_true, if_false] at AT
        clear HST HE2 HCT
        go_wp2_with fail
        refine (agent_any a wr).mono ?_
        rintro e w2 ⟨rfl, hl2⟩
        have HL2 := Lib.hid (HL.out.trans (hl2.mono HL.out.size)); clear hl2
        go_wp2_with fail
        refine (AT.out w2).mono ?_
        rintro e w3 ⟨rfl, hl3⟩
        have HL3 := Lib.hid (HL2.out.trans (hl3.mono HL2.out.size)); clear hl3
        go_wp2_with fail
        go_ret
        exact ⟨rfl, HL3.out⟩
      | true =>
        rw [hq] at AT HST
        clear hq
        simp only [if_true] at AT
        cases hh : hashB a with
        | true =>
          rw [hh] at HSH HST
          have hE2 : E = 2 := by
            rw [HE2.out, HST.out, if_pos (Or.inr rfl)]; rfl
          subst hE2
          clear HST HE2 HCT hh
          go_wp2_with fail
          refine (agent_any a wr).mono ?_
          rintro e w2 ⟨rfl, hl2⟩
          have HL2 := Lib.hid (HL.out.trans (hl2.mono HL.out.size)); clear hl2
          go_wp2_with fail
          refine (AT.out w2).mono ?_
          rintro e w3 ⟨rfl, hl3⟩
          have HL3 := Lib.hid (HL2.out.trans (hl3.mono HL2.out.size)); clear hl3
          go_wp2_with fail
          refine (HSH.out w3).mono ?_
          rintro e w4 ⟨rfl, rfl⟩
          go_wp2_with fail
          go_ret
          exact ⟨rfl, HL3.out⟩
        | false =>
          rw [hh] at HSH HST
          rw [if_neg (by simp)] at HST
          clear hh
          cases hd : hasS (ags.take k) a with
          | true =>
            rw [hd] at HST HCT
            have hE2 : E = 5 := by
              rw [HE2.out, HST.out, if_pos rfl]; rfl
            subst hE2
            clear HST HE2 hd
            go_wp2_with fail
            refine (agent_any a wr).mono ?_
            rintro e w2 ⟨rfl, hl2⟩
            have HB2 := Lib.hid hl2
            have HL2 := Lib.hid (HL.out.trans (hl2.mono HL.out.size)); clear hl2
            go_wp2_with fail
            refine (AT.out w2).mono ?_
            rintro e w3 ⟨rfl, hl3⟩
            have hB3 := HB2.out.trans (hl3.mono HB2.out.size)
            have hbx3 : w3.heap[w.heap.size]? = some (boxC ags bad (some ⟨b, off, none⟩) ca Ab cb) := by rw [hB3.below.block _ (by have := HS0.out; have := HLW.out.size; omega)]; exact hbx
            obtain ⟨c0, c1, -⟩ := boxC_cells hbx3
            have HC3 := Lib.hid (HCT.out w3 hB3)
            have HL3 := Lib.hid (HL2.out.trans (hl3.mono HL2.out.size)); clear hl3 hB3 hbx3
            go_wp2_with fail
            refine (HSH.out w3).mono ?_
            rintro e w4 ⟨rfl, rfl⟩
            go_wp2_with fail
            refine HC3.out.mono ?_
            rintro e w5 ⟨rfl, rfl⟩
            go_wp2_with fail
            go_ret
            exact ⟨rfl, HL3.out⟩
          | false =>
            rw [hd] at HST HCT
            rw [if_neg (by simp)] at HST
            clear hd
            go_wp2_with fail
            refine (agent_any a wr).mono ?_
            rintro e w2 ⟨rfl, hl2⟩
            have HB2 := Lib.hid hl2
            have HL2 := Lib.hid (HL.out.trans (hl2.mono HL.out.size)); clear hl2
            go_wp2_with fail
            refine (AT.out w2).mono ?_
            rintro e w3 ⟨rfl, hl3⟩
            have hB3 := HB2.out.trans (hl3.mono HB2.out.size)
            have hbx3 : w3.heap[w.heap.size]? = some (boxC ags bad (some ⟨b, off, none⟩) ca Ab cb) := by rw [hB3.below.block _ (by have := HS0.out; have := HLW.out.size; omega)]; exact hbx
            obtain ⟨c0, c1, -⟩ := boxC_cells hbx3
            have HC3 := Lib.hid (HCT.out w3 hB3)
            have HW3 := Lib.hid (HLW.out.trans (hB3.mono HLW.out.size))
            have HL3 := Lib.hid (HL2.out.trans (hl3.mono HL2.out.size)); clear hl3 hB3 hbx3
            go_wp2_with fail
            refine (HSH.out w3).mono ?_
            rintro e w4 ⟨rfl, rfl⟩
            go_wp2_with fail
            refine HC3.out.mono ?_
            rintro e w5 ⟨rfl, rfl⟩
            go_wp2_with fail
            go_roundw
            case rel => exact ⟨k + 1, by omega, by go_num, HL3.out, HW3.out, HST.out⟩
            case measure => simp [intOf]; omega
    · obtain rfl : k = ags.length := by omega
      have hag : agE [] ags = 0 := by rw [HA.out, List.drop_length]; rw [agE]
      have HE3 : Hid (E = badE ags (-1) bad) := by show _ = _; rw [HE2.out, if_neg (by rw [hag]; simp)]
      have HCW := Lib.hid hcw
      have HBX := Lib.hid hbx
      clear hag HE2 hcw hbx HA
      go_wp2_with fail
      generalize wr = wo at *
      go_loopw [5, 45] (fun last i wr => ∃ (k : Nat) (z : Int), k ≤ bad.length ∧ i = .int .i64 k ∧ last = .int .i64 z ∧ Hid (-1 ≤ z ∧ z < 1000) ∧ Hid (Lay w.heap.size w wr) ∧ Hid (Lay wo.heap.size wo wr) ∧ Hid (badE ags (-1) bad = badE ags z (bad.drop k))) (fun _ i _ => bad.length - (intOf i).toNat)
      case atStart => exact ⟨0, -1, Nat.zero_le _, rfl, rfl, ⟨by omega, by omega⟩, HL.out, Lay.refl _ _, rfl⟩
      case round =>
        obtain ⟨k, z, hk, rfl, rfl, HZ, HL', HLO, HA⟩ := hrel
        have i3 : (0 : Int) ≤ (k : Int) := Int.natCast_nonneg _
        have hcw := HCW.out.below HLO.out.below
        have hbx : wr.heap[w.heap.size]? = some (boxC ags bad Aa ca Ab cb) := by rw [HLO.out.below.block _ (by have := HS0.out; have := HLW.out.size; omega)]; exact HBX.out
        obtain ⟨c0, c1, -⟩ := boxC_cells hbx
        by_cases hlt : k < bad.length
        · have i4 : (k : Int) < (bad.length : Int) := by omega
          obtain ⟨b, off, hAb, hbl, hcl⟩ := hcw.b.cells (by intro h; rw [h] at hlt; simp at hlt)
          subst hAb
          have hck := hcl k hlt
          have hst := HA.out.trans (badE_at ags bad z k hlt)
          have HIX := Lib.hid (indexN ags Aa ca bad[k] wr hcw.a)
          have hpb := posS_bound ags bad[k]
          obtain ⟨a, ha⟩ : ∃ a, a = bad[k] := ⟨_, rfl⟩
          obtain ⟨q, hq⟩ : ∃ q, q = posS ags a := ⟨_, rfl⟩
          rw [← ha] at hck hst HIX hpb
          rw [← hq] at hst HIX hpb
          have HST := Lib.hid hst; clear hst
          clear ha hcl HA hcw hq hbx
          have hz := HZ.out
          by_cases h1 : q < 0
          · have hE2 : E = 4 := by rw [HE3.out, HST.out, if_pos h1]
            subst hE2
            clear HE3 HST
            go_wp2_with fail
            refine HIX.out.mono ?_
            rintro e w2 ⟨rfl, rfl⟩
            go_wp2_with fail
            go_ret
            exact ⟨rfl, HL'.out⟩
          · by_cases h2 : q ≤ z
            · have hE2 : E = 5 := by rw [HE3.out, HST.out, if_neg h1, if_pos h2]
              subst hE2
              clear HE3 HST
              go_wp2_with fail
              refine HIX.out.mono ?_
              rintro e w2 ⟨rfl, rfl⟩
              go_wp2_with fail
              go_ret
              exact ⟨rfl, HL'.out⟩
            · have HN : Hid (badE ags (-1) bad = badE ags q (bad.drop (k + 1))) := by show _ = _; rw [HST.out, if_neg h1, if_neg h2]
              clear HST
              go_wp2_with fail
              refine HIX.out.mono ?_
              rintro e w2 ⟨rfl, rfl⟩
              go_wp2_with fail
              go_roundw
              case rel => exact ⟨k + 1, q, by omega, by go_num, rfl, ⟨by omega, by omega⟩, HL'.out, HLO.out, HN.out⟩
              case measure => simp [intOf]; omega
        · obtain rfl : k = bad.length := by omega
          have hE2 : E = 0 := by rw [HE3.out, HA.out, List.drop_length]; rw [badE]
          subst hE2
          clear HE3
          go_wp2_with fail
          go_ret
          exact ⟨rfl, HL'.out⟩
end Go.Proofs.YtpjmdilpldaapaaDoor
