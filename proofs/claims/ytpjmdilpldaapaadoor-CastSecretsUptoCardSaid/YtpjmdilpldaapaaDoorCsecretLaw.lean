/- CastSecrets, walked. -/
import Derived.Test.YtpjmdilpldaapaaDoorCsecret0
import Derived.Test.YtpjmdilpldaapaaDoorCsat
namespace Go.Proofs.YtpjmdilpldaapaaDoor
open Go.RowKit Go.Sort

attribute [local irreducible] wpMix4
set_option linter.unusedSimpArgs false in
set_option linter.unusedVariables false in
set_option maxHeartbeats 4000000 in
set_option maxRecDepth 100000 in
theorem castSecrets_law (ags bad : List ByteArray) (Aa Ab : Option Addr) (ca cb : Nat) (w : World) (hc : CastW w ags bad Aa ca Ab cb) (hroom : (ags.length + bad.length) * 16 ≤ 140737488355328) :
    Calls Tryd.prog 9 #[castV ags bad Aa ca Ab cb] w fun e w' => e = .returned (.bool true) ∧ Below w.heap.size w w' := by
  have mixed : Tryd.prog.follows .mixedOrders = true := by kernel_rfl
  obtain ⟨V, hV⟩ : ∃ V, V = w.alloc (.cells #[.slice Aa ags.length ca, .slice Ab bad.length cb] 24) := ⟨_, rfl⟩
  have hbV : Below w.heap.size w V := by rw [hV]; exact below1 (Nat.le_refl _) _
  have CB0 : Hid (CBox V w.heap.size ags bad Aa ca Ab cb) := Lib.hid ⟨by rw [hV]; exact heap_alloc_new _ _, hc.below hbV⟩
  have HBV := Lib.hid hbV; have HV := Lib.hid hV
  clear hbV hV hc
  unfold castV
  go_enter Tryd.func9, Tryd.ntmps9
  go_wp2_with fail
  rw [← HV.out]
  refine (cawake_any V).mono ?_
  rintro e w1 ⟨rfl, hb1⟩
  have CB1 := Lib.hid (CB0.out.go hb1)
  have HB1 := Lib.hid (below_then HBV.out hb1 HBV.out.size)
  obtain ⟨a0, a1, -⟩ := boxC_cells CB1.out.box
  have HFW := Lib.hid (fewC_any ags bad Aa Ab ca cb w1 CB1.out.cast hroom)
  (try simp only [castV] at HFW)
  clear CB0 HBV HV hb1
  go_wp2_with fail
  refine HFW.out.mono ?_; clear HFW
  rintro e w2 ⟨rfl, hb2⟩
  have CB := Lib.hid (CB1.out.go hb2)
  have HB := Lib.hid (below_then HB1.out hb2 HB1.out.size)
  clear CB1 HB1 hb2 a0 a1
  cases hfew : fewC ags bad with
  | false =>
    go_wp2_with fail
    refine (cawake_any w2).mono ?_
    rintro e w3 ⟨rfl, hb3⟩
    go_wp2_with fail
    go_ret
    exact ⟨rfl, below_then HB.out hb3 HB.out.size⟩
  | true =>
    obtain ⟨a0, a1, -⟩ := boxC_cells CB.out.box
    obtain ⟨E, hE⟩ : ∃ E, E = castE ags bad := ⟨_, rfl⟩
    obtain ⟨L, hL⟩ : ∃ L, L = initE ags bad := ⟨_, rfl⟩
    obtain ⟨KK, hKK⟩ : ∃ KK, KK = keysE ags bad := ⟨_, rfl⟩
    have HSL : Hid (SmallL L) := Lib.hid (by rw [hL]; exact initE_small _ _)
    have HSK : Hid (SmallL KK) := Lib.hid (by rw [hKK]; exact keysE_small _ _)
    have HP : Hid (E = 0 → ∀ t ∈ KK, decide (t ∈ L) = (atT t).any (fun u => !honestC ags bad u.name)) := Lib.hid fun h0 t ht => by
      rw [hL]; rw [hKK] at ht; exact secret_key (hE.symm.trans h0) ht
    have HQ : Hid (E ≠ 0 → L = []) := Lib.hid fun h0 => by rw [hL, initE, if_neg (fun h => h0 (hE.trans h))]
    have HE := Lib.hid hE; have HL := Lib.hid hL; have HKK := Lib.hid hKK
    clear hE hL hKK
    have HCC := Lib.hid (cinitS HE.out HL.out CB.out.cast)
    (try simp only [castV, Tm.val] at HCC)
    go_wp2_with fail
    refine HCC.out.mono ?_; clear HCC
    rintro e w3 ⟨A3, c3, rfl, hS3, hb3⟩
    have CBN := Lib.hid (CB.out.go hb3)
    have HBN := Lib.hid (below_then HB.out hb3 HB.out.size)
    have S3 := Lib.hid (hS3)
    clear CB HB a0 a1
    have CB := CBN
    have HB := HBN
    clear CBN HBN
    clear hS3
    clear hb3
    obtain ⟨a0, a1, -⟩ := boxC_cells CB.out.box
    by_cases h0 : E = 0
    · subst h0
      have HCC := Lib.hid (ckeysS HKK.out CB.out.cast)
      (try simp only [castV, Tm.val] at HCC)
      go_wp2_with fail
      refine HCC.out.mono ?_; clear HCC
      rintro e w7 ⟨A7, c7, rfl, hS7, hb7⟩
      have CBN := Lib.hid (CB.out.go hb7)
      have HBN := Lib.hid (below_then HB.out hb7 HB.out.size)
      have S3N := Lib.hid (S3.out.fwd hb7)
      have S7 := Lib.hid (hS7)
      clear CB HB S3 a0 a1
      have CB := CBN
      have HB := HBN
      have S3 := S3N
      clear CBN HBN S3N
      clear hS7
      clear hb7
      obtain ⟨a0, a1, -⟩ := boxC_cells CB.out.box
      have HC7 := S7.out.1
      have HC7' := S7.out.2.1
      have hn1 : KK.length ≤ 100 := HSK.out.2
      unfold maxLen at HC7'
      clear HQ HL HKK
      go_wp2_with fail
      clear a0 a1
      go_loopw [37] (fun i wr => ∃ k : Nat, k ≤ KK.length ∧ i = .int .i64 k ∧ Hid (Below w7.heap.size w7 wr)) (fun i _ => KK.length - (intOf i).toNat)
      case atStart => exact ⟨0, Nat.zero_le _, rfl, Below.refl _ _⟩
      case round =>
        obtain ⟨wo, hwo⟩ : ∃ x, x = wr := ⟨_, rfl⟩
        subst hwo
        obtain ⟨k, hk, rfl, HBW⟩ := hrel
        have i1 : (0 : Int) ≤ (k : Int) := Int.natCast_nonneg _
        by_cases hlt : k < KK.length
        · have i2 : (k : Int) < (KK.length : Int) := by omega
          obtain ⟨b, off, A11, c11, hA7, t0, t1, t2, t3, hrt⟩ := repS_at0 (S7.out.fwd HBW.out) k hlt
          subst hA7
          have hin := HP.out (by trivial) KK[k] (List.getElem_mem hlt)
          have hsm := HSK.out.1 KK[k] (List.getElem_mem hlt)
          obtain ⟨Z, hZ⟩ : ∃ Z, Z = wo.alloc (boxT KK[k] A11 c11) := ⟨_, rfl⟩
          have hbZ : Below wo.heap.size wo Z := by rw [hZ]; exact below1 (Nat.le_refl _) _
          have hzb : Z.heap[wo.heap.size]? = some (boxT KK[k] A11 c11) := by rw [hZ]; exact heap_alloc_new _ _
          have HCC := Lib.hid ((ratoms_any KK[k] A11 c11 Z Z.heap.size (Nat.le_refl _) (by omega) (hrt.go hbZ hbZ.size)).mono fun _ _ h => h.toL)
          have HZB := Lib.hid hzb
          have HBZ := Lib.hid (HBW.out.trans (hbZ.mono HBW.out.size))
          have HRT := Lib.hid (hrt.go hbZ hbZ.size)
          rw [hZ] at hzb
          obtain ⟨y0, y1, y2, y3, -⟩ := box_at hzb
          simp only [Tm.val] at HCC
          generalize KK[k] = tt at *
          have HIN : Hid (decide (tt ∈ L) = (atT tt).any (fun u => !honestC ags bad u.name)) := Lib.hid hin
          have HCA : Hid (Calls Tryd.prog 21 #[.agg #[.int .i64 tt.kind, .string tt.name, .int .i64 tt.sort, .slice A11 tt.kids.length c11]] Z (ListS Z (atT tt))) := HCC
          have HSM := Lib.hid hsm
          generalize atT tt = AT at *
          unfold boxT at hZ y0 y1 y2 y3
          have HZ := Lib.hid hZ
          have HLZ : Hid (wo.heap.size < Z.heap.size) := Lib.hid (Array.getElem?_eq_some_iff.1 HZB.out).1
          clear hzb hbZ hrt hin hsm hZ HCC
          go_wp2_with fail
          rw [← HZ.out]
          refine HCA.out.mono ?_; clear HCA
          rintro e wa ⟨A12, c12, rfl, hS12, hb12⟩
          have HSA := Lib.hid hS12
          have HBA := Lib.hid (HBZ.out.trans (hb12.mono HBZ.out.size))
          have HBA2 := Lib.hid hb12
          have hca := hS12.1
          have hcb := hS12.2.1
          unfold maxLen at hcb
          clear hS12 hb12 t0 t1 t2 t3 y0 y1 y2 y3
          go_wp2_with fail
          go_loopw [7, 44] (fun v j wr => ∃ (m : Nat) (p : Bool), m ≤ AT.length ∧ j = .int .i64 m ∧ v = .bool p ∧ Hid (p = (AT.take m).any (fun u => !honestC ags bad u.name)) ∧ Hid (Below wa.heap.size wa wr)) (fun _ j _ => AT.length - (intOf j).toNat)
          case atStart => exact ⟨0, false, Nat.zero_le _, rfl, rfl, rfl, Below.refl _ _⟩
          case round =>
            obtain ⟨m, p, hm, rfl, rfl, HPM, HBQ⟩ := hrel
            have j1 : (0 : Int) ≤ (m : Int) := Int.natCast_nonneg _
            have HB7Q := Lib.hid (HBA.out.trans (HBQ.out.mono HBA.out.size))
            by_cases hltm : m < AT.length
            · have j2 : (m : Int) < (AT.length : Int) := by omega
              obtain ⟨b', off', A13, c13, hA12, t0, t1, t2, t3, -⟩ := repS_at0 (HSA.out.fwd HBQ.out) m hltm
              subst hA12
              have hst : (AT.take (m + 1)).any (fun u => !honestC ags bad u.name) = (p || !honestC ags bad AT[m].name) := by
                rw [HPM.out, List.take_succ_eq_append_getElem hltm, List.any_append]; simp
              obtain ⟨Y, hY⟩ : ∃ Y, Y = wr.alloc (boxT AT[m] A13 c13) := ⟨_, rfl⟩
              have hbY : Below wr.heap.size wr Y := by rw [hY]; exact below1 (Nat.le_refl _) _
              have hyb : Y.heap[wr.heap.size]? = some (boxT AT[m] A13 c13) := by rw [hY]; exact heap_alloc_new _ _
              have CBY := Lib.hid ((CB.out.go HB7Q.out).go hbY)
              have hcl := CBY.out.box
              have HCH := Lib.hid (chonest_any ags bad Aa Ab ca cb AT[m].name Y CBY.out.cast)
              have HBY := Lib.hid (HBQ.out.trans (hbY.mono HBQ.out.size))
              have HBYS := Lib.hid hbY
              rw [hY] at hyb hcl
              obtain ⟨y0, y1, y2, y3, -⟩ := box_at hyb
              obtain ⟨a0, a1, -⟩ := boxC_cells hcl
              (try simp only [castV] at HCH)
              generalize AT[m] = uu at *
              obtain ⟨q, hq⟩ : ∃ q, q = honestC ags bad uu.name := ⟨_, rfl⟩
              rw [← hq] at HCH hst
              have HST := Lib.hid hst
              unfold boxT at hY y0 y1 y2 y3 a0 a1
              have HY := Lib.hid hY
              clear hyb hbY hcl hY hst hq
              cases p with
              | true =>
                have HN : Hid (true = (AT.take (m + 1)).any (fun u => !honestC ags bad u.name)) := Lib.hid (by rw [HST.out]; rfl)
                clear HST HCH HPM
                go_wp2_with fail
                rw [← HY.out]
                go_roundw
                case rel => exact ⟨m + 1, true, by omega, by go_num, rfl, HN, HBY⟩
                case measure => simp [intOf]; omega
              | false =>
                have HN : Hid ((!q) = (AT.take (m + 1)).any (fun u => !honestC ags bad u.name)) := Lib.hid (by rw [HST.out]; rfl)
                clear HST HPM
                go_wp2_with fail
                rw [← HY.out]
                refine HCH.out.mono ?_; clear HCH
                rintro e wy ⟨rfl, hly⟩
                have HBN := Lib.hid (HBY.out.trans (hly.below.mono HBY.out.size))
                clear hly
                cases q
                all_goals
                  go_wp2_with fail
                  go_roundw
                  case rel => exact ⟨m + 1, _, by omega, by go_num, rfl, HN, HBN⟩
                  case measure => simp [intOf]; omega
            · obtain rfl : m = AT.length := by omega
              have hfin : decide (tt ∈ L) = p := by have := HPM.out; rw [List.take_length] at this; rw [HIN.out, this]
              have hzb : wr.heap[wo.heap.size]? = some (boxT tt A11 c11) := by
                rw [HBQ.out.block _ (by have := HLZ.out; have := HBA2.out.size; omega), HBA2.out.block _ HLZ.out]; exact HZB.out
              obtain ⟨y0, y1, y2, y3, -⟩ := box_at hzb
              have HCC := Lib.hid (has_small (x := tt) HSL.out (by have := HSM.out; omega) (S3.out.fwd HB7Q.out) ((HRT.out.go HBA2.out HBA2.out.size).go HBQ.out HBQ.out.size))
              rw [hfin] at HCC
              simp only [Tm.val] at HCC
              have hpp : (p != p) = false := bne_self_eq_false p
              clear hfin hzb HPM
              cases p
              all_goals
                go_wp2_with fail
                refine HCC.out.mono ?_; clear HCC
                rintro e wz ⟨rfl, hbz⟩
                have HBN := Lib.hid (HB7Q.out.trans (hbz.mono HB7Q.out.size))
                clear hbz
                go_wp2_with fail
                go_roundw
                case rel => exact ⟨k + 1, by omega, by go_num, HBN⟩
                case measure => simp [intOf]; omega
        · obtain rfl : k = KK.length := by omega
          go_wp2_with fail
          go_ret
          exact ⟨rfl, HB.out.trans (HBW.out.mono HB.out.size)⟩
    · have hR0 : (E != 0) = true := by rw [bne_iff_ne]; exact h0
      have heR : (E == E) = true := beq_self_eq_true E
      have HV := Lib.hid ((rcvalid_any ags bad Aa Ab ca cb w3 CB.out.cast).mono fun _ _ h => And.intro h.1 h.2.below)
      rw [← HE.out] at HV
      (try simp only [castV] at HV)
      have hL0 := HQ.out h0
      subst hL0
      clear HP HQ HL HKK h0
      go_wp2_with fail
      refine HV.out.mono ?_
      rintro e w4 ⟨rfl, hb4⟩
      go_wp2_with fail
      go_ret
      exact ⟨rfl, HB.out.trans (hb4.mono HB.out.size)⟩
end Go.Proofs.YtpjmdilpldaapaaDoor
