/- The reference's keys and publics. -/
import Derived.Test.YtpjmdilpldaapaaDoorCkeys
import Derived.Test.YtpjmdilpldaapaaDoorCrterm
import Derived.Test.YtpjmdilpldaapaaDoorCrvalid
namespace Go.Proofs.YtpjmdilpldaapaaDoor
open Go.RowKit Go.Sort

set_option maxHeartbeats 4000000 in
set_option maxRecDepth 100000 in
theorem rkeys_any (ags bad sm : List ByteArray) (Aa Ab As : Option Addr) (ca cb cs : Nat) (w : World) (hc : CastW w ags bad Aa ca Ab cb) (hs : RepN w (fun b => b < w.heap.size) sm As cs) (h6 : ags.length ≤ 6) (hnd : ags.Nodup) :
    Calls Tryd.prog 71 #[castV ags bad Aa ca Ab cb, .slice As sm.length cs] w (RowOf w w.heap.size (keysK ags sm ags)) := by
  obtain ⟨W0, hW0⟩ : ∃ W0, W0 = w.alloc (.cells #[.slice Aa ags.length ca, .slice Ab bad.length cb] 24) := ⟨_, rfl⟩
  have hl0 : Below w.heap.size w W0 := by rw [hW0]; exact below1 (Nat.le_refl _) _
  have hx0 : W0.heap[w.heap.size]? = some (boxC ags bad Aa ca Ab cb) := by rw [hW0]; exact heap_alloc_new _ _
  have hs0 : w.heap.size < W0.heap.size := by rw [hW0]; simp
  have HC0 := Lib.hid (hc.below hl0)
  have HM0 := Lib.hid (hs.go hl0 hl0.size)
  obtain ⟨b0, b1, -⟩ := boxC_cells hx0
  have HL0 := Lib.hid hl0; have HX0 := Lib.hid hx0; have HS0 := Lib.hid hs0; have HW0 := Lib.hid hW0
  clear hl0 hx0 hs0 hW0 hc hs
  unfold castV
  go_enter Tryd.func71, Tryd.ntmps71
  go_wp2_with fail
  rw [← HW0.out]
  go_loopw [5, 6] (fun v i wr => ∃ (k : Nat) (its : List It), k ≤ ags.length ∧ i = .int .i64 k ∧ Hid (RowT wr W0.heap.size (fun b => W0.heap.size ≤ b) v its) ∧ Hid (its.map (·.1) = keysK ags sm (ags.take k)) ∧ Hid (Below W0.heap.size W0 wr)) (fun _ i _ => ags.length - (intOf i).toNat)
  case atStart => exact ⟨0, [], Nat.zero_le _, rfl, RowT.nil _ _ _, rfl, Below.refl _ _⟩
  case round =>
    obtain ⟨k, its, hk, rfl, HROW, HITS, HB⟩ := hrel
    have i1 : (0 : Int) ≤ (k : Int) := Int.natCast_nonneg _
    have hcw := HC0.out.below HB.out
    have hmw := HM0.out.go HB.out HB.out.size
    have hbx : wr.heap[w.heap.size]? = some (boxC ags bad Aa ca Ab cb) := by rw [HB.out.block _ HS0.out]; exact HX0.out
    obtain ⟨b0', b1', -⟩ := boxC_cells hbx
    have HND := Lib.hid hnd
    have hil : its.length ≤ 49 := by
      have h1 := congrArg List.length HITS.out
      have h2 := keysK_length ags sm (ags.take k)
      rw [List.length_map] at h1
      have h3 : (ags.take k).length * (1 + ags.length) ≤ 6 * (1 + 6) := Nat.mul_le_mul (by rw [List.length_take]; omega) (by omega)
      omega
    by_cases hlt : k < ags.length
    · have i2 : (k : Int) < (ags.length : Int) := by omega
      obtain ⟨b, off, hAa, hbl, hcl⟩ := hcw.a.cells (by intro h; rw [h] at hlt; simp at hlt)
      subst hAa
      have hck := hcl k hlt
      have hsz := hcw.a.2.2.1 ags[k] (List.getElem_mem hlt)
      have hks := keysK_succ ags sm ags k hlt
      have hct := find_any sm As cs ags[k] wr hmw
      obtain ⟨a, ha⟩ : ∃ a, a = ags[k] := ⟨_, rfl⟩
      rw [← ha] at hck hsz hks hct
      have HCT := Lib.hid hct; have HKS := Lib.hid hks; have HSZ := Lib.hid hsz
      have HAK : Hid (∀ (m : Nat) (hm : m < ags.length), ags[m] = a ↔ m = k) := by
        intro m hm
        rw [ha]
        exact ⟨fun e => by
          have h1 := posS_at ags m hm HND.out
          have h2 := posS_at ags k hlt HND.out
          rw [e] at h1; omega, fun e => by subst e; rfl⟩
      clear ha hcl hct hks hsz hmw hcw hbx
      -- what stands before the inner loop
      obtain ⟨z, hz⟩ : ∃ z, z = posS sm a := ⟨_, rfl⟩
      obtain ⟨q, hq⟩ : ∃ q, q = decide (0 ≤ z) := ⟨_, rfl⟩
      have HQ : Hid (q = hasS sm a) := by show _ = _; rw [hasS_pos, ← hz]; exact hq
      rw [← hz] at HCT
      have HZ := Lib.hid hz; clear hz
      have hq' := hq.symm
      clear hq
      obtain ⟨L0, hL0⟩ : ∃ L0, L0 = keysK ags sm (ags.take k) ++ (if q = true then [skT a] else []) := ⟨_, rfl⟩
      have HKS2 : Hid (keysK ags sm (ags.take (k + 1)) = L0 ++ ags.flatMap (cellK sm a)) := by
        show _ = _; rw [HKS.out, hL0, rowK, ← HQ.out, List.append_assoc]
      clear HKS
      have HL0' := Lib.hid hL0; clear hL0
      cases q
      case' true =>
        go_wp2_with fail
        refine HCT.out.mono ?_
        rintro e w1 ⟨rfl, rfl⟩
        go_wp2_with fail
        refine (rprivate_any a HSZ.out _).mono ?_
        rintro e w2 ⟨A1, c1, rfl, hr1, hl1⟩
        obtain ⟨v3, w3, hap, hrow3, hb3⟩ := rowT_addN HROW.out HB.out.size hl1 (skT a, A1, c1) hr1 (by omega)
        have HROW3 := Lib.hid hrow3
        have HB3 := Lib.hid (HB.out.trans hb3)
        have HI3 : Hid ((its ++ [(skT a, A1, c1)]).map (·.1) = L0) := by
          show _ = _; rw [List.map_append, HITS.out, HL0'.out]; rfl
        have hil3 : (its ++ [(skT a, A1, c1)]).length ≤ 50 := by simp; omega
        have hcw := HC0.out.below HB3.out
        have hbx : w3.heap[w.heap.size]? = some (boxC ags bad (some ⟨b, off, none⟩) ca Ab cb) := by rw [HB3.out.block _ HS0.out]; exact HX0.out
        obtain ⟨d0, d1, -⟩ := boxC_cells hbx
        generalize its ++ [(skT a, A1, c1)] = its3 at *
        clear hrow3 hb3 hr1 hl1 hbx hcw HROW HITS HB hil hck b0' b1' HCT HL0'
        simp only [skT, Tm.val, Tm.kind, Tm.name, Tm.sort, Tm.kids] at hap ⊢
        go_wp2_with (at_builtin; refine wpList_run_append rfl _ _ rfl rfl rfl hap ?_)
        clear hap
      case' false =>
        go_wp2_with fail
        refine HCT.out.mono ?_
        rintro e w3 ⟨rfl, rfl⟩
        have HI3 : Hid (its.map (·.1) = L0) := by
          show _ = _; rw [HITS.out, HL0'.out]; exact (List.append_nil _).symm
        have hil3 : its.length ≤ 50 := by omega
        go_wp2_with fail
        have HROW3 := HROW
        have HB3 := HB
        clear HITS hil hck HCT HL0' HROW HB b0' b1'
        generalize its = its3 at *
        generalize u5 = v3 at *
      all_goals
        go_loopw [5, 8] (fun v j wq => ∃ (m : Nat) (itm : List It), m ≤ ags.length ∧ j = .int .i64 m ∧ Hid (RowT wq W0.heap.size (fun b => W0.heap.size ≤ b) v itm) ∧ Hid (itm.map (·.1) = L0 ++ (ags.take m).flatMap (cellK sm a)) ∧ itm.length ≤ its3.length + m ∧ Hid (Below W0.heap.size W0 wq)) (fun _ j _ => ags.length - (intOf j).toNat)
        case atStart => exact ⟨0, its3, Nat.zero_le _, rfl, HROW3.out, by show _ = _; rw [HI3.out]; exact (List.append_nil _).symm, by omega, HB3.out⟩
        case round =>
          obtain ⟨m, itm, hm, rfl, HROW, HITS, hlm, HB⟩ := hrel
          have j1 : (0 : Int) ≤ (m : Int) := Int.natCast_nonneg _
          clear HROW3 HI3 HB3
          try clear d0 d1
          have hcw := HC0.out.below HB.out
          have hmw := HM0.out.go HB.out HB.out.size
          have hbx : wr.heap[w.heap.size]? = some (boxC ags bad (some ⟨b, off, none⟩) ca Ab cb) := by rw [HB.out.block _ HS0.out]; exact HX0.out
          obtain ⟨e0, e1, -⟩ := boxC_cells hbx
          by_cases hltm : m < ags.length
          · have j2 : (m : Int) < (ags.length : Int) := by omega
            obtain ⟨b', off', hAe, -, hcl⟩ := hcw.a.cells (by intro h; rw [h] at hltm; simp at hltm)
            injection hAe with hAe
            injection hAe with h1 h2
            subst h1 h2
            have hcm := hcl m hltm
            have hsz := hcw.a.2.2.1 ags[m] (List.getElem_mem hltm)
            have hms := cells_succ sm ags a m hltm
            have hca := find_any sm As cs a wr hmw
            have hcb := find_any sm As cs ags[m] wr hmw
            have hak := HAK.out m hltm
            obtain ⟨d, hd⟩ : ∃ d, d = ags[m] := ⟨_, rfl⟩
            rw [← hd] at hcm hsz hms hcb hak
            obtain ⟨y, hy⟩ : ∃ y, y = posS sm d := ⟨_, rfl⟩
            have HY : Hid (hasS sm d = decide (0 ≤ y)) := by show _ = _; rw [hasS_pos, hy]
            rw [← hy] at hcb
            rw [← HZ.out] at hca
            clear hy
            have HCA := Lib.hid hca; have HCB := Lib.hid hcb; have HMS := Lib.hid hms; have HSD := Lib.hid hsz
            clear hd hcl hca hcb hms hsz hmw hcw hbx
            by_cases hkm : m = k
            · have had : d = a := hak.2 hkm
              subst had
              subst hkm
              have HNX : Hid ((ags.take (m + 1)).flatMap (cellK sm d) = (ags.take m).flatMap (cellK sm d)) := by
                show _ = _; rw [HMS.out, cellK, if_neg (by simp), List.append_nil]
              have hne : ((m : Int) != (m : Int)) = false := by simp
              clear HMS HCB hak HY
              go_wp2_with fail
              go_roundw
              case rel => exact ⟨m + 1, itm, by omega, by go_num, HROW.out, by show _ = _; rw [HITS.out, HNX.out], by omega, HB.out⟩
              case measure => simp [intOf]; omega
            · have had : a ≠ d := fun e => hkm (hak.1 e.symm)
              have hne : ((k : Int) != (m : Int)) = true := by rw [bne_iff_ne]; omega
              have hne2 : ¬ (k : Int) = (m : Int) := by omega
              have HCELL : Hid (cellK sm a d = if hasS sm a || hasS sm d then [shT a d] else []) := by
                show _ = _; rw [cellK, decide_eq_true had, Bool.true_and]
              rw [← HQ.out, HY.out] at HCELL
              clear hak
              by_cases h1 : 0 ≤ z
              · first
                  | exact absurd hq' (by rw [decide_eq_true h1]; decide)
                  | (rw [Bool.true_or, if_pos rfl] at HCELL
                     have d1 : decide (0 ≤ z) = true := decide_eq_true h1
                     clear HCB hq'
                     go_wp2_with fail
                     refine HCA.out.mono ?_
                     rintro e w1 ⟨rfl, rfl⟩
                     go_wp2_with fail
                     refine (rshared_any a d HSZ.out HSD.out _).mono ?_
                     rintro e w2 ⟨A1, c1, rfl, hr1, hl1⟩
                     obtain ⟨v3, w3, hap, hrow3, hb3⟩ := rowT_addN HROW.out HB.out.size hl1 (shT a d, A1, c1) hr1 (by omega)
                     have HROW3 := Lib.hid hrow3
                     have HB3 := Lib.hid (HB.out.trans hb3)
                     have HI3 : Hid ((itm ++ [(shT a d, A1, c1)]).map (·.1) = L0 ++ (ags.take (m + 1)).flatMap (cellK sm a)) := by
                       show _ = _; rw [List.map_append, HITS.out, HMS.out, List.append_assoc, HCELL.out]; rfl
                     have hil4 : (itm ++ [(shT a d, A1, c1)]).length ≤ its3.length + (m + 1) := by simp; omega
                     generalize itm ++ [(shT a d, A1, c1)] = its4 at *
                     clear hrow3 hb3 hr1 hl1 HROW HITS HB HMS HCELL
                     simp only [shT, Tm.val, Tm.kind, Tm.name, Tm.sort, Tm.kids] at hap ⊢
                     go_wp2_with (at_builtin; refine wpList_run_append rfl _ _ rfl rfl rfl hap ?_)
                     clear hap
                     go_roundw
                     case rel => exact ⟨m + 1, its4, by omega, by go_num, HROW3.out, HI3.out, hil4, HB3.out⟩
                     case measure => simp [intOf]; omega)
              · first
                  | exact absurd hq' (by rw [decide_eq_false h1]; decide)
                  | (rw [Bool.false_or] at HCELL
                     have d1 : decide (0 ≤ z) = false := decide_eq_false h1
                     clear hq'
                     by_cases h2 : 0 ≤ y
                     · rw [if_pos (decide_eq_true h2)] at HCELL
                       have d2 : decide (0 ≤ y) = true := decide_eq_true h2
                       go_wp2_with fail
                       refine HCA.out.mono ?_
                       rintro e w1 ⟨rfl, rfl⟩
                       go_wp2_with fail
                       refine HCB.out.mono ?_
                       rintro e w1' ⟨rfl, rfl⟩
                       go_wp2_with fail
                       refine (rshared_any a d HSZ.out HSD.out _).mono ?_
                       rintro e w2 ⟨A1, c1, rfl, hr1, hl1⟩
                       obtain ⟨v3, w3, hap, hrow3, hb3⟩ := rowT_addN HROW.out HB.out.size hl1 (shT a d, A1, c1) hr1 (by omega)
                       have HROW3 := Lib.hid hrow3
                       have HB3 := Lib.hid (HB.out.trans hb3)
                       have HI3 : Hid ((itm ++ [(shT a d, A1, c1)]).map (·.1) = L0 ++ (ags.take (m + 1)).flatMap (cellK sm a)) := by
                         show _ = _; rw [List.map_append, HITS.out, HMS.out, List.append_assoc, HCELL.out]; rfl
                       have hil4 : (itm ++ [(shT a d, A1, c1)]).length ≤ its3.length + (m + 1) := by simp; omega
                       generalize itm ++ [(shT a d, A1, c1)] = its4 at *
                       clear hrow3 hb3 hr1 hl1 HROW HITS HB HMS HCELL
                       simp only [shT, Tm.val, Tm.kind, Tm.name, Tm.sort, Tm.kids] at hap ⊢
                       go_wp2_with (at_builtin; refine wpList_run_append rfl _ _ rfl rfl rfl hap ?_)
                       clear hap
                       go_roundw
                       case rel => exact ⟨m + 1, its4, by omega, by go_num, HROW3.out, HI3.out, hil4, HB3.out⟩
                       case measure => simp [intOf]; omega
                     · rw [if_neg (by rw [decide_eq_false h2]; decide)] at HCELL
                       have d2 : decide (0 ≤ y) = false := decide_eq_false h2
                       have HNX : Hid ((ags.take (m + 1)).flatMap (cellK sm a) = (ags.take m).flatMap (cellK sm a)) := by
                         show _ = _; rw [HMS.out, HCELL.out, List.append_nil]
                       clear HMS HCELL
                       go_wp2_with fail
                       refine HCA.out.mono ?_
                       rintro e w1 ⟨rfl, rfl⟩
                       go_wp2_with fail
                       refine HCB.out.mono ?_
                       rintro e w1' ⟨rfl, rfl⟩
                       go_wp2_with fail
                       go_roundw
                       case rel => exact ⟨m + 1, itm, by omega, by go_num, HROW.out, by show _ = _; rw [HITS.out, HNX.out], by omega, HB.out⟩
                       case measure => simp [intOf]; omega)
          · obtain rfl : m = ags.length := by omega
            have HL : Hid (itm.map (·.1) = keysK ags sm (ags.take (k + 1))) := by
              show _ = _; rw [HITS.out, HKS2.out, List.take_length]
            clear hcw hmw hbx HITS
            go_wp2_with fail
            go_roundw
            case rel => exact ⟨k + 1, itm, by omega, by go_num, HROW.out, HL.out, HB.out⟩
            case measure => simp [intOf]; omega
    · obtain rfl : k = ags.length := by omega
      have HI : Hid (its.map (·.1) = keysK ags sm ags) := by have := HITS.out; rw [List.take_length] at this; exact this
      clear HITS hcw hmw hbx
      go_wp2_with fail
      go_ret
      exact ⟨_, its, rfl, HROW.out.loosen (Nat.le_of_lt HS0.out) (fun b h => by have := HS0.out; omega), HI.out, HL0.out.trans (HB.out.mono (Nat.le_of_lt HS0.out))⟩

set_option maxHeartbeats 2000000 in
set_option maxRecDepth 100000 in
theorem rpubs_any (ags bad : List ByteArray) (Aa Ab : Option Addr) (ca cb : Nat) (w : World) (hc : CastW w ags bad Aa ca Ab cb) (h6 : ags.length ≤ 6) :
    Calls Tryd.prog 70 #[castV ags bad Aa ca Ab cb] w (RowOf w w.heap.size (pubsK ags)) := by
  obtain ⟨W0, hW0⟩ : ∃ W0, W0 = w.alloc (.cells #[.slice Aa ags.length ca, .slice Ab bad.length cb] 24) := ⟨_, rfl⟩
  have hl0 : Below w.heap.size w W0 := by rw [hW0]; exact below1 (Nat.le_refl _) _
  have hx0 : W0.heap[w.heap.size]? = some (boxC ags bad Aa ca Ab cb) := by rw [hW0]; exact heap_alloc_new _ _
  have hs0 : w.heap.size < W0.heap.size := by rw [hW0]; simp
  have HC0 := Lib.hid (hc.below hl0)
  obtain ⟨b0, b1, -⟩ := boxC_cells hx0
  have HL0 := Lib.hid hl0; have HX0 := Lib.hid hx0; have HS0 := Lib.hid hs0; have HW0 := Lib.hid hW0
  clear hl0 hx0 hs0 hW0 hc
  unfold castV
  go_enter Tryd.func70, Tryd.ntmps70
  go_wp2_with fail
  rw [← HW0.out]
  go_loopw [3, 4] (fun v i wr => ∃ (k : Nat) (its : List It), k ≤ ags.length ∧ i = .int .i64 k ∧ its.length = k ∧ Hid (RowT wr W0.heap.size (fun b => W0.heap.size ≤ b) v its) ∧ Hid (its.map (·.1) = pubsK (ags.take k)) ∧ Hid (Below W0.heap.size W0 wr)) (fun _ i _ => ags.length - (intOf i).toNat)
  case atStart => exact ⟨0, [], Nat.zero_le _, rfl, rfl, RowT.nil _ _ _, rfl, Below.refl _ _⟩
  case round =>
    obtain ⟨k, its, hk, rfl, hlk, HROW, HITS, HB⟩ := hrel
    have i1 : (0 : Int) ≤ (k : Int) := Int.natCast_nonneg _
    have hcw := HC0.out.below HB.out
    have hbx : wr.heap[w.heap.size]? = some (boxC ags bad Aa ca Ab cb) := by rw [HB.out.block _ HS0.out]; exact HX0.out
    obtain ⟨b0', b1', -⟩ := boxC_cells hbx
    by_cases hlt : k < ags.length
    · have i2 : (k : Int) < (ags.length : Int) := by omega
      obtain ⟨b, off, hAa, hbl, hcl⟩ := hcw.a.cells (by intro h; rw [h] at hlt; simp at hlt)
      subst hAa
      have hck := hcl k hlt
      have hsz := hcw.a.2.2.1 ags[k] (List.getElem_mem hlt)
      have hks := pubsK_succ ags k hlt
      obtain ⟨a, ha⟩ : ∃ a, a = ags[k] := ⟨_, rfl⟩
      rw [← ha] at hck hsz hks
      have HKS := Lib.hid hks; have HSA := Lib.hid hsz
      clear ha hcl hks hsz hcw hbx
      go_wp2_with fail
      refine (rpublic_any a HSA.out _).mono ?_
      rintro e w2 ⟨A1, c1, rfl, hr1, hl1⟩
      obtain ⟨v3, w3, hap, hrow3, hb3⟩ := rowT_addN HROW.out HB.out.size hl1 (pkT a, A1, c1) hr1 (by omega)
      have HROW3 := Lib.hid hrow3
      have HB3 := Lib.hid (HB.out.trans hb3)
      have HI3 : Hid ((its ++ [(pkT a, A1, c1)]).map (·.1) = pubsK (ags.take (k + 1))) := by
        show _ = _; rw [List.map_append, HITS.out, HKS.out]; rfl
      have hil3 : (its ++ [(pkT a, A1, c1)]).length = k + 1 := by simp; omega
      generalize its ++ [(pkT a, A1, c1)] = its3 at *
      have HLL := Lib.hid hil3
      subst hlk
      clear hrow3 hb3 hr1 hl1 HROW HITS HB hil3 hck b0' b1'
      simp only [pkT, Tm.val, Tm.kind, Tm.name, Tm.sort, Tm.kids] at hap ⊢
      go_wp2_with (at_builtin; refine wpList_run_append rfl _ _ rfl rfl rfl hap ?_)
      clear hap
      go_roundw
      case rel => exact ⟨its.length + 1, its3, by omega, by go_num, HLL.out, HROW3.out, HI3.out, HB3.out⟩
      case measure => simp [intOf]; omega
    · obtain rfl : k = ags.length := by omega
      have HI : Hid (its.map (·.1) = pubsK ags) := by have := HITS.out; rw [List.take_length] at this; exact this
      have HLK := Lib.hid hlk
      clear HITS hcw hbx hlk
      go_wp2_with fail
      go_ret
      exact ⟨_, its, rfl, HROW.out.loosen (Nat.le_of_lt HS0.out) (fun b h => by have := HS0.out; omega), HI.out, HL0.out.trans (HB.out.mono (Nat.le_of_lt HS0.out))⟩
end Go.Proofs.YtpjmdilpldaapaaDoor
