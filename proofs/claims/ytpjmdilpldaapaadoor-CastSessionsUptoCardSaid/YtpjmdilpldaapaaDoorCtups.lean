/- The reference's tuples. -/
import Derived.Test.YtpjmdilpldaapaaDoorCchosen
import Derived.Test.YtpjmdilpldaapaaDoorCrvalid
import Derived.Test.YtpjmdilpldaapaaDoorUmix5
namespace Go.Proofs.YtpjmdilpldaapaaDoor
open Go.RowKit Go.Sort

theorem rep_lit (w : World) (a : ByteArray) : RepV (w.alloc (.cells #[.string a] 9)) (fun q => q = w.heap.size) 1 (strs [a]) (some ⟨w.heap.size, 0, none⟩) 1 1 := by
  refine ⟨rfl, Nat.le_refl _, by simp [maxLen], .inr ⟨w.heap.size, 0, rfl, rfl, fun j u hj => ?_⟩⟩
  have := World.news_of_block (heap_alloc_new w (.cells #[.string a] 9)) (0 + j) u (by simpa [strs] using hj)
  unfold Addr.add at this
  split at this <;> simp_all
attribute [local irreducible] wpMix4
set_option linter.unusedSimpArgs false in
set_option linter.unusedVariables false in
set_option maxHeartbeats 8000000 in
set_option maxRecDepth 100000 in
theorem tuples_any (ags bad : List ByteArray) (Aa Ab : Option Addr) (ca cb : Nat) (h6 : ags.length ≤ 6) (n : Nat) : ∀ (w : World), n ≤ 4 → RepN w (fun b => b < w.heap.size) ags Aa ca →
    Calls Tryd.prog 73 #[castV ags bad Aa ca Ab cb, .int .i64 n] w (TupsOf w (tups ags n)) := by
  have mixed : Tryd.prog.follows .mixedOrders = true := by kernel_rfl
  induction n with
  | zero =>
    intro w _ hc
    obtain ⟨W0, hW0⟩ : ∃ W0, W0 = w.alloc (.cells #[.slice Aa ags.length ca, .slice Ab bad.length cb] 24) := ⟨_, rfl⟩
    have hl0 : Below w.heap.size w W0 := by rw [hW0]; exact below1 (Nat.le_refl _) _
    have hown : ((W0.alloc (.cells #[] 9)).alloc (.cells #[.slice (some ⟨W0.heap.size, 0, none⟩) 0 0] 22)).ownsRow w.heap.size 22 1 (.slice (some ⟨(W0.alloc (.cells #[] 9)).heap.size, 0, none⟩) 1 1) 1 [.slice (some ⟨W0.heap.size, 0, none⟩) 0 0] :=
      World.ownsRow_lit _ #[.slice (some ⟨W0.heap.size, 0, none⟩) 0 0] 1 (by have := hl0.size; simp; omega) (by simp [maxLen]) rfl
    have hbw : Below w.heap.size w ((W0.alloc (.cells #[] 9)).alloc (.cells #[.slice (some ⟨W0.heap.size, 0, none⟩) 0 0] 22)) := (hl0.alloc hl0.size _).alloc (hl0.alloc hl0.size _).size _
    have e1 : W0.heap.size = w.heap.size + 1 := by rw [hW0]; simp
    have e2 : (W0.alloc (.cells #[] 9)).heap.size = w.heap.size + 1 + 1 := by simp [e1]
    rw [e2, e1] at hown
    rw [e1] at hbw
    have HOWN := Lib.hid hown; have HBW := Lib.hid hbw; have HW0 := Lib.hid hW0; clear hown hbw hl0 hW0 e1 e2
    unfold castV
    go_enter Tryd.func73, Tryd.ntmps73
    go_wp2_with fail
    go_ret
    rw [← HW0.out]
    refine ⟨_, [([], some ⟨w.heap.size + 1, 0, none⟩, 0, 0)], rfl, ⟨HOWN.out, fun x hx => by rw [List.mem_singleton.1 hx]; exact ⟨rfl, Nat.le_refl _, Nat.zero_le _, .inl rfl⟩⟩, rfl, HBW.out⟩
  | succ n ih =>
    intro w hn hc
    obtain ⟨W0, hW0⟩ : ∃ W0, W0 = w.alloc (.cells #[.slice Aa ags.length ca, .slice Ab bad.length cb] 24) := ⟨_, rfl⟩
    have hl0 : Below w.heap.size w W0 := by rw [hW0]; exact below1 (Nat.le_refl _) _
    have hx0 : W0.heap[w.heap.size]? = some (boxC ags bad Aa ca Ab cb) := by rw [hW0]; exact heap_alloc_new _ _
    have hs0 : w.heap.size < W0.heap.size := by rw [hW0]; simp
    have hc0 := hc.go hl0 hl0.size
    have IH := Lib.hid (ih W0 (by omega) hc0)
    obtain ⟨b0, b1, -⟩ := boxC_cells hx0
    have HC := Lib.hid hc0; have HW0 := Lib.hid hW0; have HL0 := Lib.hid hl0; have HX0 := Lib.hid hx0; have HSW := Lib.hid hs0
    have hz : ((n : Int) + 1 == 0) = false := by rw [beq_eq_false_iff_ne]; omega
    have hi0 : (0 : Int) ≤ (n : Int) := Int.natCast_nonneg _
    have hi4 : (n : Int) ≤ 4 := by omega
    have hsub : ((n : Int) + 1 - 1) = n := by omega
    have hl4 := tups_len4 h6 (n := n) (by omega)
    have HL4 := Lib.hid hl4
    clear hc ih hW0 hl0 hx0 hs0 hc0
    unfold castV at IH ⊢
    rw [Int.natCast_add, show ((1 : Nat) : Int) = 1 from rfl]
    go_enter Tryd.func73, Tryd.ntmps73
    go_wp2_with fail
    rw [← HW0.out]
    refine IH.out.mono ?_
    rintro e w1 ⟨v1, its1, rfl, hrow1, hits1, hb1⟩
    have hlen1 : its1.length = (tups ags n).length := by have := congrArg List.length hits1; simpa using this
    obtain ⟨A1, c1, rfl⟩ : ∃ A1 c1, v1 = .slice A1 its1.length c1 := by
      obtain ⟨A, c, h, -⟩ := repV_own hrow1.own
      exact ⟨A, c, h⟩
    have HX1 : Hid (w1.heap[w.heap.size]? = some (boxC ags bad Aa ca Ab cb)) := Lib.hid ((hb1.block _ HSW.out).trans HX0.out)
    have HS0 : Hid (w.heap.size < w1.heap.size) := Lib.hid (by have := hb1.size; have := HSW.out; omega)
    have HB01 : Hid (Below w.heap.size w w1) := Lib.hid (HL0.out.trans (hb1.mono HL0.out.size))
    have HC1 := Lib.hid (HC.out.go hb1 hb1.size)
    have HR1 := Lib.hid hrow1; have HI1 := Lib.hid hits1; have HN1 := Lib.hid hlen1; have HBW1 := Lib.hid hb1
    clear hrow1 hits1 hb1 hlen1 IH b0 b1 HW0 HX0
    have hl1 : its1.length ≤ 1296 := by rw [HN1.out]; exact HL4.out
    go_wp2_with fail
    go_loopw [5, 7] (fun v i wr => ∃ (k : Nat) (its : List Iv), k ≤ its1.length ∧ i = .int .i64 k ∧ Hid (SRow 22 1 wr w1.heap.size v its) ∧ Hid (its.map (·.1) = (tupsN ags n k).map strs) ∧ Hid (Below w1.heap.size w1 wr)) (fun _ i _ => its1.length - (intOf i).toNat)
    case atStart => exact ⟨0, [], Nat.zero_le _, rfl, SRow.nil _ _ _ _, rfl, Below.refl _ _⟩
    case round =>
      obtain ⟨k, its, hk, rfl, HROW, HITS, HB⟩ := hrel
      have i1 : (0 : Int) ≤ (k : Int) := Int.natCast_nonneg _
      by_cases hlt : k < its1.length
      · have i2 : (k : Int) < (its1.length : Int) := by omega
        have hkt : k < (tups ags n).length := by have := HN1.out; omega
        obtain ⟨g1, c1', hA1, hslot⟩ := HR1.out.slot k hlt
        have hrp := HR1.out.reps its1[k] (List.getElem_mem hlt)
        have hx : its1[k].1 = strs (tups ags n)[k] := by
          have := congrArg (·[k]?) HI1.out
          simpa [hlt, hkt] using this
        have hts := tupsN_succ ags n k hkt
        obtain ⟨-, -, hmem⟩ := mem_tups ags n (tups ags n)[k] (List.getElem_mem hkt)
        obtain ⟨hd, hhd⟩ : ∃ hd, hd = (tups ags n)[k] := ⟨_, rfl⟩
        rw [← hhd] at hx hts hmem
        have hln : hd.length ≤ 4 := by have := (mem_tups ags n (tups ags n)[k] (List.getElem_mem hkt)).1; rw [← hhd] at this; omega
        obtain ⟨X, hX⟩ : ∃ X, X = its1[k] := ⟨_, rfl⟩
        rw [← hX] at hslot hrp hx
        clear hX hhd
        obtain ⟨vs, Ah, nh, chd⟩ := X
        simp only at hx hrp
        subst hx
        obtain ⟨rfl, hrn⟩ := hrp.toN (fun x hx => HC.out.2.2.1 x (hmem x hx))
        injection hA1 with hA1 _ hA3
        subst hA1 hA3
        simp only [ivVal] at hslot
        have HRN : Hid (RepN w1 (fun q => q < w1.heap.size) hd Ah chd) := Lib.hid (hrn.mono (fun q h => h.2.1) (fun _ _ => rfl))
        have HTS := Lib.hid hts; have HSL := Lib.hid hslot
        clear hrp hrn hts hmem hslot
        have hilk : its.length ≤ 7776 := by
          have h1 := congrArg List.length HITS.out
          have h2 := tupsN_length h6 n k
          simp only [List.length_map] at h1
          have := HL4.out
          omega
        go_wp2_with fail
        generalize wr = wo at *
        go_loopw [5, 8] (fun v j wq => ∃ (m : Nat) (itm : List Iv), m ≤ ags.length ∧ j = .int .i64 m ∧ Hid (SRow 22 1 wq w1.heap.size v itm) ∧ Hid (itm.map (·.1) = (tupsN ags n k ++ extN ags hd m).map strs) ∧ itm.length ≤ its.length + m ∧ Hid (Below w1.heap.size w1 wq)) (fun _ j _ => ags.length - (intOf j).toNat)
        case atStart => exact ⟨0, its, Nat.zero_le _, rfl, HROW.out, by show _ = _; rw [extN_zero, List.append_nil]; exact HITS.out, by omega, HB.out⟩
        case round =>
          obtain ⟨m, itm, hm, rfl, HRW, HIT, hlm, HBQ⟩ := hrel
          have j1 : (0 : Int) ≤ (m : Int) := Int.natCast_nonneg _
          obtain ⟨d0, d1, -⟩ := boxC_cells ((HBQ.out.block _ HS0.out).trans HX1.out)
          have dsl := (HBQ.out.cell (World.block_lt HSL.out)).trans HSL.out
          by_cases hltm : m < ags.length
          · have j2 : (m : Int) < (ags.length : Int) := by omega
            obtain ⟨b, off, hAa, -, hcl⟩ := HC1.out.cells (by intro h; rw [h] at hltm; simp at hltm)
            subst hAa
            have HCK := Lib.hid (hcl m hltm)
            have dck := (HBQ.out.cell (World.block_lt HCK.out)).trans HCK.out
            have hes := extN_succ ags hd m hltm
            have hct : ∀ z, Calls Tryd.prog 66 #[.slice Ah hd.length chd, .string ags[m]] (wr.drewN z) fun e w' => e = .returned (.int .i64 (posS hd ags[m])) ∧ w' = wr.drewN z := fun z =>
              find_any hd Ah chd ags[m] (wr.drewN z) (P := fun q => q < w1.heap.size) (RepN.mono (fun q h => h) (fun p hp => HBQ.out.cell hp) HRN.out)
            have hiff := posS_nonneg hd ags[m]
            obtain ⟨a, ha⟩ : ∃ a, a = ags[m] := ⟨_, rfl⟩
            rw [← ha] at hct hes dck HCK hiff
            obtain ⟨z, hz⟩ : ∃ z, z = posS hd a := ⟨_, rfl⟩
            rw [← hz] at hct hiff
            have HCT := Lib.hid hct; have HES := Lib.hid hes
            clear ha hcl hct hes hz
            have hcap := HC1.out.2.1
            have hcap2 := HC1.out.1
            by_cases hz0 : z < 0
            case neg =>
              have hq : hasS hd a = true := (hasS_iff hd a).2 (hiff.1 (by omega))
              have HNX : Hid (extN ags hd (m + 1) = extN ags hd m) := by show _ = _; rw [HES.out, if_pos hq, List.append_nil]
              have hzd : decide (z < 0) = false := decide_eq_false hz0
              clear HES hq hiff hcap hcap2
              go_wp2_with fail
              go_quiet ((go_at_call 66; exact Calls.quiet_of_same (HCT.out _)))
              have hlq : Lay wr.heap.size wr (wr.drewN nq) := (Lay.refl _ _).drewN nq
              have HR2 := Lib.hid (HRW.out.below hlq.below)
              have HB2 := Lib.hid (HBQ.out.trans (hlq.below.mono HBQ.out.size))
              clear hlq HRW HBQ
              go_wp2_with fail
              go_roundw
              case rel => exact ⟨m + 1, itm, by omega, by go_num, HR2.out, by show _ = _; rw [HNX.out]; exact HIT.out, by omega, HB2.out⟩
              case measure => simp [intOf]; omega
            case pos =>
              have hq : ¬ hasS hd a = true := fun h => by have := hiff.2 ((hasS_iff hd a).1 h); omega
              have HNX : Hid (extN ags hd (m + 1) = extN ags hd m ++ [hd ++ [a]]) := by show _ = _; rw [HES.out, if_neg hq]
              have hzd : decide (z < 0) = true := decide_eq_true hz0
              clear HES hq hiff hcap hcap2
              go_wp2_with fail
              go_quiet ((go_at_call 66; exact Calls.quiet_of_same (HCT.out _)))
              go_wp2_with fail
              refine wp_region_mix4 (fun _ => True) (fun Y => Below w1.heap.size w1 Y) [] (.held 0 (.held 2 (.held 3 (.held 4 (.held 5 (.held 7 (.held 8 (.held 9 (.held 10 (.held 11 (.two 1 12 (.two 6 12 (.op 12 (.op 13 (.op 14 (.op 15 (.held 16 .nil))))) (.op 6 (.op 13 (.op 14 (.op 15 (.held 16 .nil)))))) (.op 1 (.op 6 (.op 13 (.op 14 (.op 15 (.held 16 .nil))))))))))))))))) mixed (by kernel_rfl) ?_
              obtain ⟨D, hD⟩ : ∃ D, D = (wr.drewN nq).drew := ⟨_, rfl⟩
              rw [← hD]
              have hDb : Below wr.heap.size wr D := by rw [hD]; exact ((Lay.refl wr.heap.size wr).drewN nq).below.drew
              have HBD0 : Hid (Below w1.heap.size w1 D) := Lib.hid (HBQ.out.trans (hDb.mono HBQ.out.size))
              have HRX := Lib.hid (HRW.out.below hDb)
              clear hD hDb HRW HBQ d0 d1 dsl dck
              obtain ⟨d0, d1, -⟩ := boxC_cells ((HBD0.out.block _ HS0.out).trans HX1.out)
              have dsl := (HBD0.out.cell (World.block_lt HSL.out)).trans HSL.out
              have dck := (HBD0.out.cell (World.block_lt HCK.out)).trans HCK.out
              refine mix4_take (v := u5) rfl rfl rfl (fun _ _ _ h => h) trivial HBD0.out (fun Y _ hY => by
                (try simp only [Act.put]); go_simp) ?_
              refine mix4_take (v := .slice (some ⟨g1, 0, none⟩) its1.length c1) rfl rfl rfl (fun _ _ _ h => h) trivial HBD0.out (fun Y _ hY => by
                (try simp only [Act.put]); go_simp) ?_
              refine mix4_take (v := .int .i64 k) rfl rfl rfl (fun _ _ _ h => h) trivial HBD0.out (fun Y _ hY => by
                (try simp only [Act.put]); go_simp) ?_
              refine mix4_take (v := .pointer (some ⟨g1, k, none⟩)) rfl rfl rfl (fun _ _ _ h => h) trivial HBD0.out (fun Y _ hY => by
                (try simp only [Act.put]); go_simp) ?_
              (try simp only [Act.put, List.setIfInBounds_toArray, List.set_cons_succ, List.set_cons_zero, List.getElem_toArray, List.getElem_cons_succ, List.getElem_cons_zero])
              refine mix4_take (v := .slice Ah hd.length chd) rfl rfl rfl (fun _ _ _ h => h) trivial HBD0.out (fun Y _ hY => by
                have zc := (hY.cell (World.block_lt HSL.out)).trans HSL.out
                clear d0 d1 dsl dck hY
                (try simp only [Act.put]); go_simp) ?_
              refine mix4_take (v := .pointer (some ⟨w.heap.size, 0, none⟩)) rfl rfl rfl (fun _ _ _ h => h) trivial HBD0.out (fun Y _ hY => by
                (try simp only [Act.put]); go_simp) ?_
              refine mix4_take (v := .slice (some ⟨b, off, none⟩) ags.length ca) rfl rfl rfl (fun _ _ _ h => h) trivial HBD0.out (fun Y _ hY => by
                obtain ⟨zc, zc1, -⟩ := boxC_cells ((hY.block _ HS0.out).trans HX1.out)
                clear d0 d1 dsl dck hY
                (try simp only [Act.put]); go_simp) ?_
              refine mix4_take (v := .int .i64 m) rfl rfl rfl (fun _ _ _ h => h) trivial HBD0.out (fun Y _ hY => by
                (try simp only [Act.put]); go_simp) ?_
              (try simp only [Act.put, List.setIfInBounds_toArray, List.set_cons_succ, List.set_cons_zero, List.getElem_toArray, List.getElem_cons_succ, List.getElem_cons_zero])
              refine mix4_take (v := .pointer (some ⟨b, off + m, none⟩)) rfl rfl rfl (fun _ _ _ h => h) trivial HBD0.out (fun Y _ hY => by
                (try simp only [Act.put]); go_simp) ?_
              refine mix4_take (v := .string a) rfl rfl rfl (fun _ _ _ h => h) trivial HBD0.out (fun Y _ hY => by
                have zc := (hY.cell (World.block_lt HCK.out)).trans HCK.out
                clear d0 d1 dsl dck hY
                (try simp only [Act.put]); go_simp) ?_
              refine mix4_two ?_ ?_
              · -- 1, 6, 12
                (try simp only [Act.put, List.setIfInBounds_toArray, List.set_cons_succ, List.set_cons_zero, List.getElem_toArray, List.getElem_cons_succ, List.getElem_cons_zero])
                refine mix4_op rfl rfl (fun K hK => ?_)
                go_wp2_with fail
                refine ⟨⟨fun _ => trivial, HBD0.out.alloc HBD0.out.size _⟩, ?_⟩
                have HL1 : Hid ((D.alloc (.cells #[] 9)).ownsRow D.heap.size 9 1 (.slice (some ⟨D.heap.size, 0, none⟩) 0 0) 0 (strs [])) := Lib.hid (World.ownsRow_lit D #[] 0 (Nat.le_refl _) (by simp [maxLen]) rfl)
                have HB1 : Hid (Below w1.heap.size w1 (D.alloc (.cells #[] 9))) := Lib.hid (HBD0.out.alloc HBD0.out.size _)
                have HD1 : Hid (Below D.heap.size D (D.alloc (.cells #[] 9))) := Lib.hid ((Below.refl D.heap.size D).alloc (Nat.le_refl _) _)
                generalize hY1 : D.alloc (.cells #[] 9) = Y1 at *
                clear hY1
                refine mix4_two ?_ ?_
                · obtain ⟨v6, Y6, hap6, ho6, hg6⟩ := row_addV slStr HL1.out HD1.out.size ((RepN.mono (P' := fun q => q < w1.heap.size) (fun q h => h) (fun p hp => HB1.out.cell hp) HRN.out).toV) (strs_one hd) (by unfold maxLen; omega) (by omega)
                  have HO6 : Hid (Y6.ownsRow D.heap.size 9 1 v6 hd.length (strs hd)) := Lib.hid (by have := ho6; rwa [show 0 + hd.length = hd.length by omega, show strs [] ++ strs hd = strs hd from rfl] at this)
                  have HB6 : Hid (Below w1.heap.size w1 Y6) := Lib.hid (HB1.out.trans (hg6.below.mono HBD0.out.size))
                  have HD6 : Hid (Below D.heap.size D Y6) := Lib.hid (HD1.out.trans hg6.below)
                  clear HL1
                  clear ho6
                  (try simp only [Act.put, List.setIfInBounds_toArray, List.set_cons_succ, List.set_cons_zero, List.getElem_toArray, List.getElem_cons_succ, List.getElem_cons_zero])
                  refine mix4_op rfl rfl (fun K hK => ?_)
                  refine wp_run_append (.tmp 42) (.tmp 46) (by rfl) (by rfl) (by rfl) hap6 ?_
                  refine hK _ _ ⟨⟨fun _ => trivial, HB6.out⟩, ?_⟩
                  clear hK K hap6 hg6
                  (try simp only [Act.put, List.setIfInBounds_toArray, List.set_cons_succ, List.set_cons_zero, List.getElem_toArray, List.getElem_cons_succ, List.getElem_cons_zero])
                  refine mix4_op rfl rfl (fun K hK => ?_)
                  go_wp2_with fail
                  refine ⟨⟨fun _ => trivial, HB6.out.alloc HB6.out.size _⟩, ?_⟩
                  have HV12 : Hid (RepV (Y6.alloc (.cells #[.string a] 9)) (fun q => q = Y6.heap.size) 1 (strs [a]) (some ⟨Y6.heap.size, 0, none⟩) 1 1) := Lib.hid (rep_lit Y6 a)
                  have HB12 : Hid (Below w1.heap.size w1 (Y6.alloc (.cells #[.string a] 9))) := Lib.hid (HB6.out.alloc HB6.out.size _)
                  have HD12 : Hid (Below D.heap.size D (Y6.alloc (.cells #[.string a] 9))) := Lib.hid (HD6.out.alloc HD6.out.size _)
                  have HO6' := Lib.hid (own_below HO6.out (show Below Y6.heap.size Y6 (Y6.alloc (.cells #[.string a] 9)) from below1 (Nat.le_refl _) _))
                  clear HO6
                  have HO6 := HO6'
                  clear HO6' 
                  obtain ⟨h12, hh12⟩ : ∃ h, h = Y6.heap.size := ⟨_, rfl⟩
                  rw [← hh12] at HV12
                  rw [← hh12]
                  have HH12 := Lib.hid hh12
                  clear hh12
                  generalize hY12 : Y6.alloc (.cells #[.string a] 9) = Y12 at *
                  clear hY12
                  have HD := HD12
                  obtain ⟨v13, Y13, hap13, ho13, hg13⟩ := row_addV slStr HO6.out HD.out.size HV12.out (strs_one [a]) (by unfold maxLen; omega) (by omega)
                  have HD13 : Hid (Below D.heap.size D Y13) := Lib.hid (HD.out.trans hg13.below)
                  have HB13 : Hid (Below w1.heap.size w1 Y13) := Lib.hid (HBD0.out.trans (HD13.out.mono HBD0.out.size))
                  obtain ⟨A13, c13, hv13, hrep13⟩ := repV_own ho13
                  subst hv13
                  have HR13 := Lib.hid (HRX.out.below HD13.out)
                  have hX13 : RepV Y13 (fun q => w1.heap.size ≤ q ∧ q < Y13.heap.size ∧ (u5 : Value).ownBlock ≠ some q) 1 (strs (hd ++ [a])) A13 (hd.length + 1) c13 := by
                    have := hrep13 (fun q => w1.heap.size ≤ q ∧ q < Y13.heap.size ∧ (u5 : Value).ownBlock ≠ some q) (fun q h1 h2 _ => ⟨by have := HBD0.out.size; omega, h2, fun e => by have := (HRX.out.lt q e).2; omega⟩)
                    rw [show strs (hd ++ [a]) = strs hd ++ strs [a] by simp [strs]]
                    exact this
                  obtain ⟨g5, c5, Y15, hap15, hr5, hg5⟩ := srow_add slStrs HR13.out HB13.out.size (strs (hd ++ [a]), A13, hd.length + 1, c13) hX13 (by omega)
                  have HR5 := Lib.hid hr5
                  have HB15 := Lib.hid (HB13.out.trans hg5.below)
                  have HI5 : Hid ((itm ++ [((strs (hd ++ [a]), A13, hd.length + 1, c13) : Iv)]).map (·.1) = (tupsN ags n k ++ extN ags hd (m + 1)).map strs) := by
                    show _ = _
                    rw [List.map_append, HIT.out, HNX.out, ← List.append_assoc (tupsN ags n k), List.map_append (f := strs) (l₂ := [hd ++ [a]])]; rfl
                  have hl5 : (itm ++ [((strs (hd ++ [a]), A13, hd.length + 1, c13) : Iv)]).length = itm.length + 1 := by simp
                  have HL5 := Lib.hid hl5
                  generalize itm ++ [((strs (hd ++ [a]), A13, hd.length + 1, c13) : Iv)] = it5 at *
                  simp only [ivVal] at hap15
                  clear hrep13 ho13 hX13 hr5 hl5 HR13 HRX HIT HNX HV12 HO6
                  (try simp only [Act.put, List.setIfInBounds_toArray, List.set_cons_succ, List.set_cons_zero, List.getElem_toArray, List.getElem_cons_succ, List.getElem_cons_zero])
                  refine mix4_op rfl rfl (fun K hK => ?_)
                  refine wp_run_append (.tmp 47) (.tmp 53) (by rfl) (by rfl) (by rfl) hap13 ?_
                  refine hK _ _ ⟨⟨fun _ => trivial, HB13.out⟩, ?_⟩
                  clear hK K hap13 hg13
                  (try simp only [Act.put, List.setIfInBounds_toArray, List.set_cons_succ, List.set_cons_zero, List.getElem_toArray, List.getElem_cons_succ, List.getElem_cons_zero])
                  refine mix4_op rfl rfl (fun K hK => ?_)
                  go_wp2_with fail
                  refine ⟨⟨fun _ => trivial, HB13.out.alloc HB13.out.size _⟩, ?_⟩
                  (try simp only [Act.put, List.setIfInBounds_toArray, List.set_cons_succ, List.set_cons_zero, List.getElem_toArray, List.getElem_cons_succ, List.getElem_cons_zero])
                  refine mix4_op rfl rfl (fun K hK => ?_)
                  refine wp_run_append (.tmp 41) (.tmp 55) (by rfl) (by rfl) (by rfl) hap15 ?_
                  refine hK _ _ ⟨⟨fun _ => trivial, HB15.out⟩, ?_⟩
                  clear hK K hap15 hg5
                  (try simp only [Act.put, List.setIfInBounds_toArray, List.set_cons_succ, List.set_cons_zero, List.getElem_toArray, List.getElem_cons_succ, List.getElem_cons_zero])
                  refine mix4_take (v := .slice (some ⟨g5, 0, none⟩) (itm.length + 1) c5) rfl rfl rfl (fun _ _ _ h => h) trivial HB15.out (fun Y _ hY => by
                    (try simp only [Act.put]); go_simp) ?_
                  (try simp only [Act.put, List.setIfInBounds_toArray, List.set_cons_succ, List.set_cons_zero, List.getElem_toArray, List.getElem_cons_succ, List.getElem_cons_zero])
                  refine mix4_nil ?_
                  go_wp2_with fail
                  go_roundw
                  case rel => exact ⟨m + 1, it5, by omega, by go_num, HR5.out, HI5.out, by have := HL5.out; omega, HB15.out⟩
                  case measure => simp [intOf]; omega
                · (try simp only [Act.put, List.setIfInBounds_toArray, List.set_cons_succ, List.set_cons_zero, List.getElem_toArray, List.getElem_cons_succ, List.getElem_cons_zero])
                  refine mix4_op rfl rfl (fun K hK => ?_)
                  go_wp2_with fail
                  refine ⟨⟨fun _ => trivial, HB1.out.alloc HB1.out.size _⟩, ?_⟩
                  have HV12 : Hid (RepV (Y1.alloc (.cells #[.string a] 9)) (fun q => q = Y1.heap.size) 1 (strs [a]) (some ⟨Y1.heap.size, 0, none⟩) 1 1) := Lib.hid (rep_lit Y1 a)
                  have HB12 : Hid (Below w1.heap.size w1 (Y1.alloc (.cells #[.string a] 9))) := Lib.hid (HB1.out.alloc HB1.out.size _)
                  have HD12 : Hid (Below D.heap.size D (Y1.alloc (.cells #[.string a] 9))) := Lib.hid (HD1.out.alloc HD1.out.size _)
                  have HL1' := Lib.hid (own_below HL1.out (show Below Y1.heap.size Y1 (Y1.alloc (.cells #[.string a] 9)) from below1 (Nat.le_refl _) _))
                  have HS12 : Hid (Y1.heap.size < (Y1.alloc (.cells #[.string a] 9)).heap.size) := Lib.hid (by simp)
                  have HE12 := Lib.hid (HL1.out.lt)
                  obtain ⟨h12, hh12⟩ : ∃ h, h = Y1.heap.size := ⟨_, rfl⟩
                  rw [← hh12] at HV12 HS12
                  rw [← hh12]
                  have HH12 := Lib.hid hh12
                  clear hh12
                  generalize hY12 : Y1.alloc (.cells #[.string a] 9) = Y12 at *
                  clear hY12
                  have HS12b : Hid (h12 < Y12.heap.size) := HS12
                  obtain ⟨v6, Y6, hap6, ho6, hg6⟩ := row_addV slStr HL1'.out HD12.out.size ((RepN.mono (P' := fun q => q < w1.heap.size) (fun q h => h) (fun p hp => HB12.out.cell hp) HRN.out).toV) (strs_one hd) (by unfold maxLen; omega) (by omega)
                  have HO6 : Hid (Y6.ownsRow D.heap.size 9 1 v6 hd.length (strs hd)) := Lib.hid (by have := ho6; rwa [show 0 + hd.length = hd.length by omega, show strs [] ++ strs hd = strs hd from rfl] at this)
                  have HB6 : Hid (Below w1.heap.size w1 Y6) := Lib.hid (HB12.out.trans (hg6.below.mono HBD0.out.size))
                  have HD6 : Hid (Below D.heap.size D Y6) := Lib.hid (HD12.out.trans hg6.below)
                  have HV12' : Hid (RepV Y6 (fun q => q = h12) 1 (strs [a]) (some ⟨h12, 0, none⟩) 1 1) := Lib.hid (HV12.out.mono (fun q h => h) (fun p hp => World.cell?_of_block (hg6.old p.block (by rw [hp]; exact HS12b.out) (by rw [hp]; exact fun e => absurd (HE12.out h12 e).2 (by have := HH12.out; omega)))))
                  clear HV12
                  have HV12 := HV12'
                  clear HV12'
                  clear HL1
                  clear ho6
                  (try simp only [Act.put, List.setIfInBounds_toArray, List.set_cons_succ, List.set_cons_zero, List.getElem_toArray, List.getElem_cons_succ, List.getElem_cons_zero])
                  refine mix4_op rfl rfl (fun K hK => ?_)
                  refine wp_run_append (.tmp 42) (.tmp 46) (by rfl) (by rfl) (by rfl) hap6 ?_
                  refine hK _ _ ⟨⟨fun _ => trivial, HB6.out⟩, ?_⟩
                  clear hK K hap6 hg6
                  have HD := HD6
                  obtain ⟨v13, Y13, hap13, ho13, hg13⟩ := row_addV slStr HO6.out HD.out.size HV12.out (strs_one [a]) (by unfold maxLen; omega) (by omega)
                  have HD13 : Hid (Below D.heap.size D Y13) := Lib.hid (HD.out.trans hg13.below)
                  have HB13 : Hid (Below w1.heap.size w1 Y13) := Lib.hid (HBD0.out.trans (HD13.out.mono HBD0.out.size))
                  obtain ⟨A13, c13, hv13, hrep13⟩ := repV_own ho13
                  subst hv13
                  have HR13 := Lib.hid (HRX.out.below HD13.out)
                  have hX13 : RepV Y13 (fun q => w1.heap.size ≤ q ∧ q < Y13.heap.size ∧ (u5 : Value).ownBlock ≠ some q) 1 (strs (hd ++ [a])) A13 (hd.length + 1) c13 := by
                    have := hrep13 (fun q => w1.heap.size ≤ q ∧ q < Y13.heap.size ∧ (u5 : Value).ownBlock ≠ some q) (fun q h1 h2 _ => ⟨by have := HBD0.out.size; omega, h2, fun e => by have := (HRX.out.lt q e).2; omega⟩)
                    rw [show strs (hd ++ [a]) = strs hd ++ strs [a] by simp [strs]]
                    exact this
                  obtain ⟨g5, c5, Y15, hap15, hr5, hg5⟩ := srow_add slStrs HR13.out HB13.out.size (strs (hd ++ [a]), A13, hd.length + 1, c13) hX13 (by omega)
                  have HR5 := Lib.hid hr5
                  have HB15 := Lib.hid (HB13.out.trans hg5.below)
                  have HI5 : Hid ((itm ++ [((strs (hd ++ [a]), A13, hd.length + 1, c13) : Iv)]).map (·.1) = (tupsN ags n k ++ extN ags hd (m + 1)).map strs) := by
                    show _ = _
                    rw [List.map_append, HIT.out, HNX.out, ← List.append_assoc (tupsN ags n k), List.map_append (f := strs) (l₂ := [hd ++ [a]])]; rfl
                  have hl5 : (itm ++ [((strs (hd ++ [a]), A13, hd.length + 1, c13) : Iv)]).length = itm.length + 1 := by simp
                  have HL5 := Lib.hid hl5
                  generalize itm ++ [((strs (hd ++ [a]), A13, hd.length + 1, c13) : Iv)] = it5 at *
                  simp only [ivVal] at hap15
                  clear hrep13 ho13 hX13 hr5 hl5 HR13 HRX HIT HNX HV12 HO6
                  (try simp only [Act.put, List.setIfInBounds_toArray, List.set_cons_succ, List.set_cons_zero, List.getElem_toArray, List.getElem_cons_succ, List.getElem_cons_zero])
                  refine mix4_op rfl rfl (fun K hK => ?_)
                  refine wp_run_append (.tmp 47) (.tmp 53) (by rfl) (by rfl) (by rfl) hap13 ?_
                  refine hK _ _ ⟨⟨fun _ => trivial, HB13.out⟩, ?_⟩
                  clear hK K hap13 hg13
                  (try simp only [Act.put, List.setIfInBounds_toArray, List.set_cons_succ, List.set_cons_zero, List.getElem_toArray, List.getElem_cons_succ, List.getElem_cons_zero])
                  refine mix4_op rfl rfl (fun K hK => ?_)
                  go_wp2_with fail
                  refine ⟨⟨fun _ => trivial, HB13.out.alloc HB13.out.size _⟩, ?_⟩
                  (try simp only [Act.put, List.setIfInBounds_toArray, List.set_cons_succ, List.set_cons_zero, List.getElem_toArray, List.getElem_cons_succ, List.getElem_cons_zero])
                  refine mix4_op rfl rfl (fun K hK => ?_)
                  refine wp_run_append (.tmp 41) (.tmp 55) (by rfl) (by rfl) (by rfl) hap15 ?_
                  refine hK _ _ ⟨⟨fun _ => trivial, HB15.out⟩, ?_⟩
                  clear hK K hap15 hg5
                  (try simp only [Act.put, List.setIfInBounds_toArray, List.set_cons_succ, List.set_cons_zero, List.getElem_toArray, List.getElem_cons_succ, List.getElem_cons_zero])
                  refine mix4_take (v := .slice (some ⟨g5, 0, none⟩) (itm.length + 1) c5) rfl rfl rfl (fun _ _ _ h => h) trivial HB15.out (fun Y _ hY => by
                    (try simp only [Act.put]); go_simp) ?_
                  (try simp only [Act.put, List.setIfInBounds_toArray, List.set_cons_succ, List.set_cons_zero, List.getElem_toArray, List.getElem_cons_succ, List.getElem_cons_zero])
                  refine mix4_nil ?_
                  go_wp2_with fail
                  go_roundw
                  case rel => exact ⟨m + 1, it5, by omega, by go_num, HR5.out, HI5.out, by have := HL5.out; omega, HB15.out⟩
                  case measure => simp [intOf]; omega
              · -- 12, 1, 6
                (try simp only [Act.put, List.setIfInBounds_toArray, List.set_cons_succ, List.set_cons_zero, List.getElem_toArray, List.getElem_cons_succ, List.getElem_cons_zero])
                refine mix4_op rfl rfl (fun K hK => ?_)
                go_wp2_with fail
                refine ⟨⟨fun _ => trivial, HBD0.out.alloc HBD0.out.size _⟩, ?_⟩
                have HV12 : Hid (RepV (D.alloc (.cells #[.string a] 9)) (fun q => q = D.heap.size) 1 (strs [a]) (some ⟨D.heap.size, 0, none⟩) 1 1) := Lib.hid (rep_lit D a)
                have HB12 : Hid (Below w1.heap.size w1 (D.alloc (.cells #[.string a] 9))) := Lib.hid (HBD0.out.alloc HBD0.out.size _)
                have HD12 : Hid (Below D.heap.size D (D.alloc (.cells #[.string a] 9))) := Lib.hid ((Below.refl D.heap.size D).alloc (Nat.le_refl _) _)
                have HS12 : Hid (D.heap.size < (D.alloc (.cells #[.string a] 9)).heap.size) := Lib.hid (by simp)
                obtain ⟨h12, hh12⟩ : ∃ h, h = D.heap.size := ⟨_, rfl⟩
                rw [← hh12] at HV12 HS12
                rw [← hh12]
                have HH12 := Lib.hid hh12
                clear hh12
                generalize hY12 : D.alloc (.cells #[.string a] 9) = Y12 at *
                clear hY12
                have HS12b : Hid (h12 < Y12.heap.size) := HS12
                (try simp only [Act.put, List.setIfInBounds_toArray, List.set_cons_succ, List.set_cons_zero, List.getElem_toArray, List.getElem_cons_succ, List.getElem_cons_zero])
                refine mix4_op rfl rfl (fun K hK => ?_)
                go_wp2_with fail
                refine ⟨⟨fun _ => trivial, HB12.out.alloc HB12.out.size _⟩, ?_⟩
                have HL1 : Hid ((Y12.alloc (.cells #[] 9)).ownsRow D.heap.size 9 1 (.slice (some ⟨Y12.heap.size, 0, none⟩) 0 0) 0 (strs [])) := Lib.hid (World.ownsRow_lit Y12 #[] 0 HD12.out.size (by simp [maxLen]) rfl)
                have HB1 : Hid (Below w1.heap.size w1 (Y12.alloc (.cells #[] 9))) := Lib.hid (HB12.out.alloc HB12.out.size _)
                have HD1 : Hid (Below D.heap.size D (Y12.alloc (.cells #[] 9))) := Lib.hid (HD12.out.alloc HD12.out.size _)
                have HV12' : Hid (RepV (Y12.alloc (.cells #[] 9)) (fun q => q = h12) 1 (strs [a]) (some ⟨h12, 0, none⟩) 1 1) := Lib.hid (HV12.out.mono (fun q h => h) (fun p hp => (show Below Y12.heap.size Y12 (Y12.alloc (.cells #[] 9)) from below1 (Nat.le_refl _) _).cell (by rw [hp]; exact HS12b.out)))
                clear HV12
                have HV12 := HV12'
                clear HV12'
                have HS1 : Hid (h12 < (Y12.alloc (.cells #[] 9)).heap.size) := Lib.hid (by have := HS12b.out; simp; omega)
                generalize hY1 : Y12.alloc (.cells #[] 9) = Y1 at *
                clear hY1
                obtain ⟨v6, Y6, hap6, ho6, hg6⟩ := row_addV slStr HL1.out HD1.out.size ((RepN.mono (P' := fun q => q < w1.heap.size) (fun q h => h) (fun p hp => HB1.out.cell hp) HRN.out).toV) (strs_one hd) (by unfold maxLen; omega) (by omega)
                have HO6 : Hid (Y6.ownsRow D.heap.size 9 1 v6 hd.length (strs hd)) := Lib.hid (by have := ho6; rwa [show 0 + hd.length = hd.length by omega, show strs [] ++ strs hd = strs hd from rfl] at this)
                have HB6 : Hid (Below w1.heap.size w1 Y6) := Lib.hid (HB1.out.trans (hg6.below.mono HBD0.out.size))
                have HD6 : Hid (Below D.heap.size D Y6) := Lib.hid (HD1.out.trans hg6.below)
                have HV12' : Hid (RepV Y6 (fun q => q = h12) 1 (strs [a]) (some ⟨h12, 0, none⟩) 1 1) := Lib.hid (HV12.out.mono (fun q h => h) (fun p hp => World.cell?_of_block (hg6.old p.block (by rw [hp]; exact HS1.out) (by rw [hp]; exact fun e => by have e2 : (some Y12.heap.size : Option Nat) = some h12 := e; injection e2 with e2; have := HS12b.out; omega))))
                clear HV12
                have HV12 := HV12'
                clear HV12'
                clear HL1
                clear ho6
                (try simp only [Act.put, List.setIfInBounds_toArray, List.set_cons_succ, List.set_cons_zero, List.getElem_toArray, List.getElem_cons_succ, List.getElem_cons_zero])
                refine mix4_op rfl rfl (fun K hK => ?_)
                refine wp_run_append (.tmp 42) (.tmp 46) (by rfl) (by rfl) (by rfl) hap6 ?_
                refine hK _ _ ⟨⟨fun _ => trivial, HB6.out⟩, ?_⟩
                clear hK K hap6 hg6
                have HD := HD6
                obtain ⟨v13, Y13, hap13, ho13, hg13⟩ := row_addV slStr HO6.out HD.out.size HV12.out (strs_one [a]) (by unfold maxLen; omega) (by omega)
                have HD13 : Hid (Below D.heap.size D Y13) := Lib.hid (HD.out.trans hg13.below)
                have HB13 : Hid (Below w1.heap.size w1 Y13) := Lib.hid (HBD0.out.trans (HD13.out.mono HBD0.out.size))
                obtain ⟨A13, c13, hv13, hrep13⟩ := repV_own ho13
                subst hv13
                have HR13 := Lib.hid (HRX.out.below HD13.out)
                have hX13 : RepV Y13 (fun q => w1.heap.size ≤ q ∧ q < Y13.heap.size ∧ (u5 : Value).ownBlock ≠ some q) 1 (strs (hd ++ [a])) A13 (hd.length + 1) c13 := by
                  have := hrep13 (fun q => w1.heap.size ≤ q ∧ q < Y13.heap.size ∧ (u5 : Value).ownBlock ≠ some q) (fun q h1 h2 _ => ⟨by have := HBD0.out.size; omega, h2, fun e => by have := (HRX.out.lt q e).2; omega⟩)
                  rw [show strs (hd ++ [a]) = strs hd ++ strs [a] by simp [strs]]
                  exact this
                obtain ⟨g5, c5, Y15, hap15, hr5, hg5⟩ := srow_add slStrs HR13.out HB13.out.size (strs (hd ++ [a]), A13, hd.length + 1, c13) hX13 (by omega)
                have HR5 := Lib.hid hr5
                have HB15 := Lib.hid (HB13.out.trans hg5.below)
                have HI5 : Hid ((itm ++ [((strs (hd ++ [a]), A13, hd.length + 1, c13) : Iv)]).map (·.1) = (tupsN ags n k ++ extN ags hd (m + 1)).map strs) := by
                  show _ = _
                  rw [List.map_append, HIT.out, HNX.out, ← List.append_assoc (tupsN ags n k), List.map_append (f := strs) (l₂ := [hd ++ [a]])]; rfl
                have hl5 : (itm ++ [((strs (hd ++ [a]), A13, hd.length + 1, c13) : Iv)]).length = itm.length + 1 := by simp
                have HL5 := Lib.hid hl5
                generalize itm ++ [((strs (hd ++ [a]), A13, hd.length + 1, c13) : Iv)] = it5 at *
                simp only [ivVal] at hap15
                clear hrep13 ho13 hX13 hr5 hl5 HR13 HRX HIT HNX HV12 HO6
                (try simp only [Act.put, List.setIfInBounds_toArray, List.set_cons_succ, List.set_cons_zero, List.getElem_toArray, List.getElem_cons_succ, List.getElem_cons_zero])
                refine mix4_op rfl rfl (fun K hK => ?_)
                refine wp_run_append (.tmp 47) (.tmp 53) (by rfl) (by rfl) (by rfl) hap13 ?_
                refine hK _ _ ⟨⟨fun _ => trivial, HB13.out⟩, ?_⟩
                clear hK K hap13 hg13
                (try simp only [Act.put, List.setIfInBounds_toArray, List.set_cons_succ, List.set_cons_zero, List.getElem_toArray, List.getElem_cons_succ, List.getElem_cons_zero])
                refine mix4_op rfl rfl (fun K hK => ?_)
                go_wp2_with fail
                refine ⟨⟨fun _ => trivial, HB13.out.alloc HB13.out.size _⟩, ?_⟩
                (try simp only [Act.put, List.setIfInBounds_toArray, List.set_cons_succ, List.set_cons_zero, List.getElem_toArray, List.getElem_cons_succ, List.getElem_cons_zero])
                refine mix4_op rfl rfl (fun K hK => ?_)
                refine wp_run_append (.tmp 41) (.tmp 55) (by rfl) (by rfl) (by rfl) hap15 ?_
                refine hK _ _ ⟨⟨fun _ => trivial, HB15.out⟩, ?_⟩
                clear hK K hap15 hg5
                (try simp only [Act.put, List.setIfInBounds_toArray, List.set_cons_succ, List.set_cons_zero, List.getElem_toArray, List.getElem_cons_succ, List.getElem_cons_zero])
                refine mix4_take (v := .slice (some ⟨g5, 0, none⟩) (itm.length + 1) c5) rfl rfl rfl (fun _ _ _ h => h) trivial HB15.out (fun Y _ hY => by
                  (try simp only [Act.put]); go_simp) ?_
                (try simp only [Act.put, List.setIfInBounds_toArray, List.set_cons_succ, List.set_cons_zero, List.getElem_toArray, List.getElem_cons_succ, List.getElem_cons_zero])
                refine mix4_nil ?_
                go_wp2_with fail
                go_roundw
                case rel => exact ⟨m + 1, it5, by omega, by go_num, HR5.out, HI5.out, by have := HL5.out; omega, HB15.out⟩
                case measure => simp [intOf]; omega
          · obtain rfl : m = ags.length := by omega
            have HI : Hid (itm.map (·.1) = (tupsN ags n (k + 1)).map strs) := by show _ = _; rw [HTS.out]; exact HIT.out
            clear HIT
            go_wp2_with fail
            go_roundw
            case rel => exact ⟨k + 1, itm, by omega, by go_num, HRW.out, HI.out, HBQ.out⟩
            case measure => simp [intOf]; omega
      · obtain rfl : k = its1.length := by omega
        have HI : Hid (its.map (·.1) = (tups ags (n + 1)).map strs) := by show _ = _; rw [HITS.out, HN1.out, tupsN_all]
        clear HITS
        go_wp2_with fail
        go_ret
        exact ⟨_, its, rfl, HROW.out.loosen HB01.out.size, HI.out, HB01.out.trans (HB.out.mono HB01.out.size)⟩
end Go.Proofs.YtpjmdilpldaapaaDoor
