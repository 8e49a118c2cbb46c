/- The reference's Parse of a substitution. -/
import Derived.Test.YtipmibjhlpnhjaaGreatDoorSsparse
namespace Go.Proofs.YtipmibjhlpnhjaaGreatDoor
open Go.RowKit Go.Sort

theorem sides_contains (l : List UInt8) : (sidesE l).2.2 = Lib.contains l [32, 61, 32] := by
  unfold sidesE Lib.contains
  split
  · rename_i h; exact (decide_eq_true h).symm
  · rename_i h; exact (decide_eq_false h).symm
theorem sides_cut {l : List UInt8} (h : Lib.contains l [32, 61, 32] = true) : sidesE l = Lib.cut l [32, 61, 32] := by
  have h1 : 0 ≤ Lib.index l [32, 61, 32] := of_decide_eq_true h
  unfold sidesE Lib.cut
  rw [if_pos h1, if_pos h1]; rfl

set_option maxHeartbeats 1200000 in
set_option maxRecDepth 100000 in
theorem rsparse_any (s : ByteArray) (w : World) (hs : s.size ≤ 2000) : Calls Tryz.prog 35 #[.string s] w (ParsedS (parseSE s.data.toList) w) := by
  have mixed : Tryz.prog.follows .mixedOrders = true := by kernel_rfl
  obtain ⟨l, hl⟩ : ∃ l, l = s.data.toList := ⟨_, rfl⟩
  have hsz : s.size = l.length := by rw [hl]; exact size_list s
  rw [← hl]
  obtain ⟨r, hr⟩ : ∃ r, r = parseSE l := ⟨_, rfl⟩
  rw [← hr]
  unfold parseSE at hr
  by_cases h2 : l.length < 2
  · rw [if_pos (.inl h2)] at hr
    subst hr
    have i1 : (l.length : Int) < 2 := by omega
    clear h2 hl
    go_enter Tryz.func35, Tryz.ntmps35
    go_wp2_with fail
    go_ret2
    exact parsedS_err (Below.refl _ _)
  have HR := Lib.hid hr; clear hr
  have hat : ∀ k, (h : k < l.length) → ∃ h' : k < s.size, s[k] = l[k] := fun k h => ⟨by omega, by subst hl; rfl⟩
  have HL := Lib.hid hl; clear hl
  obtain ⟨h0, e0⟩ := hat 0 (by omega)
  obtain ⟨h1, e1⟩ := hat (l.length - 1) (by omega)
  obtain ⟨c, hc⟩ : ∃ c : Int, c = (l[0].toNat : Int) := ⟨_, rfl⟩
  obtain ⟨z, hz⟩ : ∃ z : Int, z = (l[l.length - 1].toNat : Int) := ⟨_, rfl⟩
  have hc2 : (s[0].toNat : Int) = c := by rw [e0, hc]
  have hz2 : (s[l.length - 1].toNat : Int) = z := by rw [e1, hz]
  have i1 : ¬ (l.length : Int) < 2 := by omega
  have i2 : ((l.length - 1 : Nat) : Int) = (l.length : Int) - 1 := by omega
  have i3 : (0 : Int) ≤ (l.length : Int) - 1 := by omega
  have i4 : ((l.length : Int) - 1).toNat = l.length - 1 := by omega
  by_cases hc3 : c = 123
  · by_cases hz3 : z = 125
    · have f1 : (c != 123) = false := by simp [hc3]
      have f2 : (z != 125) = false := by simp [hz3]
      have hr : r = if l.length = 2 then ([], 0) else bodyE (piecesE ((l.take (l.length - 1)).drop 1)) := by
        rw [HR.out, if_neg]
        rintro (g | g | g)
        · omega
        · apply g
          rw [List.getElem?_eq_getElem (by omega)]
          congr 1
          exact UInt8.toNat_inj.1 (by have : ((123 : UInt8).toNat : Int) = 123 := rfl; omega)
        · apply g
          rw [List.getElem?_eq_getElem (by omega)]
          congr 1
          exact UInt8.toNat_inj.1 (by have : ((125 : UInt8).toNat : Int) = 125 := rfl; omega)
      have HR2 := Lib.hid hr; clear hr HR
      obtain ⟨B, hB⟩ : ∃ B, B = s.extract 1 (l.length - 1) := ⟨_, rfl⟩
      have hBl : B.data.toList = (l.take (l.length - 1)).drop 1 := by rw [hB, extract_piece, HL.out]
      have hBs : B.size = l.length - 2 := by rw [hB, ByteArray.size_extract]; omega
      have hsl : s.toList = l := by rw [ByteArray.toList_eq, HL.out]
      by_cases h4 : l.length = 2
      · have hl2 : l = [123, 125] := by
          have k0 : l[0] = 123 := UInt8.toNat_inj.1 (by have : ((123 : UInt8).toNat : Int) = 123 := rfl; omega)
          have k1 : l[l.length - 1] = 125 := UInt8.toNat_inj.1 (by have : ((125 : UInt8).toNat : Int) = 125 := rfl; omega)
          refine List.ext_getElem h4 fun i j1 j2 => ?_
          rcases Nat.lt_or_ge 0 i with hi | hi
          · have : i = l.length - 1 := by simp at j2; omega
            subst this
            rw [k1]
            simp only [h4]; rfl
          · have : i = 0 := by omega
            subst this
            rw [k0]; rfl
        have hE2 : (s.toList == [123, 125]) = true := by rw [hsl, hl2]; rfl
        have hr := HR2.out.trans (if_pos h4)
        subst hr
        clear HR2 hB hBl hBs h4 h2 hl2 hsl hc3 hz3 hc hz e0 e1 hat
        go_enter Tryz.func35, Tryz.ntmps35
        go_wp2_with fail
        go_ret2
        exact parsedS_err (Below.refl _ _)
      · have hE2 : (s.toList == [123, 125]) = false := by
          rw [hsl, beq_eq_false_iff_ne]
          intro e
          have := congrArg List.length e
          simp at this; omega
        have hr := HR2.out.trans (if_neg h4)
        rw [← hBl] at hr
        have HR3 := Lib.hid hr; clear hr HR2 h4 hsl hc3 hz3 hc hz e0 e1 hat
        have HBS := Lib.hid hBs; clear hBs hBl h2
        have PC := Lib.hid (rpieces_any B w (by have := HBS.out; omega))
        go_enter Tryz.func35, Tryz.ntmps35
        go_wp2_with fail
        rw [← hB]
        refine PC.out.mono ?_; clear PC
        rintro e w1 ⟨g, pc, xs, rfl, hxs, hrow, hb1⟩
        have hgl := (hrow.lt g rfl).2
        have hcells : ∀ j (h : j < xs.length), w1.cell? ⟨g, j, none⟩ = some (.string xs[j]) := fun j h => by
          have := hrow.cells (g := g) rfl j (.string xs[j]) (by rw [List.getElem?_map, List.getElem?_eq_getElem h]; rfl)
          unfold Addr.add at this
          split at this <;> simp_all
        have hxl : xs.length ≤ 2000 := by
          have e1 : xs.length = (piecesE B.data.toList).length := by rw [← hxs]; simp
          have e2 := pieces_count B.data.toList
          rw [← size_list] at e2
          have := HBS.out
          omega
        have hxz : ∀ x ∈ xs, x.size ≤ 2000 := fun x hx => by
          have h : x.data.toList ∈ piecesE B.data.toList := by rw [← hxs]; exact List.mem_map_of_mem (f := fun y : ByteArray => y.data.toList) hx
          have := pieces_len h
          rw [← size_list, ← size_list] at this
          have := HBS.out
          omega
        have hb := HR3.out
        unfold bodyE at hb
        have HB0 := Lib.hid hb; clear hb HR3
        have HXS := Lib.hid hxs; clear hxs
        have HCE := Lib.hid hcells; clear hcells
        have HXZ := Lib.hid hxz; clear hxz
        have HB1 := Lib.hid hb1; clear hb1
        have HROW := Lib.hid hrow; clear hrow
        have hpl : (piecesE B.data.toList).length = xs.length := by rw [← HXS.out]; simp
        go_wp2_with fail
        go_loopw [5] (fun i wr => ∃ k : Nat, k ≤ xs.length ∧ i = .int .i64 k ∧ Hid (((piecesE B.data.toList).any fun p => !Lib.contains p [32, 61, 32]) = (((piecesE B.data.toList).drop k).any fun p => !Lib.contains p [32, 61, 32])) ∧ Hid (Below w1.heap.size w1 wr)) (fun i _ => xs.length - (intOf i).toNat)
        case atStart => exact ⟨0, Nat.zero_le _, rfl, rfl, Below.refl _ _⟩
        case round =>
          obtain ⟨k, hk, rfl, HANY, HBW⟩ := hrel
          by_cases hlt : k < xs.length
          · have i5 : (k : Int) < (xs.length : Int) := by omega
            have i6 : (0 : Int) ≤ (k : Int) := Int.natCast_nonneg _
            have hgk : wr.cell? ⟨g, k, none⟩ = some (.string xs[k]) := by
              rw [HBW.out.cell (p := ⟨g, k, none⟩) hgl]
              exact HCE.out k hlt
            have hxk := HXZ.out xs[k] (List.getElem_mem hlt)
            have SD := rsides_any xs[k] wr (by omega)
            have hst : (((piecesE B.data.toList).drop k).any fun p => !Lib.contains p [32, 61, 32]) = (!Lib.contains xs[k].data.toList [32, 61, 32] || ((piecesE B.data.toList).drop (k + 1)).any fun p => !Lib.contains p [32, 61, 32]) := by
              rw [← HXS.out, ← List.map_drop, List.drop_eq_getElem_cons hlt, List.map_cons, List.any_cons, List.map_drop]
            have hq := sides_contains xs[k].data.toList
            generalize sidesE xs[k].data.toList = sd at *
            obtain ⟨sa, sb, sq⟩ := sd
            dsimp only at SD hq
            rw [← hq] at hst
            have HST := Lib.hid (HANY.out.trans hst); clear hst hq HANY
            have SD := Lib.hid SD
            cases sq with
            | true =>
              go_wp2_with fail
              refine SD.out.mono ?_; clear SD
              rintro e w2 ⟨rfl, hl2⟩
              go_wp2_with fail
              go_roundw
              case rel => exact ⟨k + 1, by omega, by go_num, by show _ = _; rw [HST.out]; rfl, HBW.out.trans (hl2.below.mono HBW.out.size)⟩
              case measure => simp [intOf]; omega
            | false =>
              have hb := HB0.out.trans (if_pos (by rw [HST.out]; rfl))
              subst hb
              clear HST HB0
              go_wp2_with fail
              refine SD.out.mono ?_; clear SD
              rintro e w2 ⟨rfl, hl2⟩
              go_wp2_with fail
              go_ret2
              exact parsedS_err (below_then HB1.out (HBW.out.trans (hl2.below.mono HBW.out.size)) HB1.out.size)
          · obtain rfl : k = xs.length := by omega
            have hany : ((piecesE B.data.toList).any fun p => !Lib.contains p [32, 61, 32]) = false := by
              have := HANY.out
              rw [List.drop_eq_nil_of_le (by omega)] at this; exact this
            have HALL := Lib.hid hany
            have hb := HB0.out.trans (if_neg (by rw [hany]; simp))
            clear HB0 hany HANY
            obtain ⟨w2, hw2⟩ : ∃ w2, w2 = wr := ⟨_, rfl⟩
            rw [← hw2] at HBW ⊢
            clear hw2
            have hb2 := HBW.out
            have HB := Lib.hid hb; clear hb
            have HB2 := Lib.hid (below_then HB1.out hb2 HB1.out.size)
            have HB12 := Lib.hid hb2; clear hb2
            go_wp2_with fail
            go_loopw [9, 10] (fun v i wr => ∃ (k c0 : Nat) (A0 : Option Addr) (its : List IB), k ≤ xs.length ∧ i = .int .i64 k ∧ v = .slice A0 its.length c0 ∧ Hid (its.length = k) ∧ Hid (RowB wr w2.heap.size (fun b => w2.heap.size ≤ b) (.slice A0 its.length c0) its) ∧
                Hid (its.map IB.bd = ((piecesE B.data.toList).take k).map bdP) ∧ Hid (errP (piecesE B.data.toList) = errP ((piecesE B.data.toList).drop k)) ∧ Hid (Below w2.heap.size w2 wr)) (fun _ i _ => xs.length - (intOf i).toNat)
            case atStart => exact ⟨0, 0, none, [], Nat.zero_le _, rfl, rfl, rfl, RowB.nil _ _ _, rfl, rfl, Below.refl _ _⟩
            case round =>
              obtain ⟨k, c0, A0, its, hk, rfl, rfl, HM2, HRB, HMAP, HERR, HBW⟩ := hrel
              by_cases hlt : k < xs.length
              · have i5 : (k : Int) < (xs.length : Int) := by omega
                have hws := HBW.out.size
                have hw2 := HB2.out.size
                have hwk := (below_then HB2.out HBW.out HB2.out.size)
                have hgk : wr.cell? ⟨g, k, none⟩ = some (.string xs[k]) := by
                  have h12 := HB12.out.size
                  rw [(HBW.out).cell (p := ⟨g, k, none⟩) (by show g < w2.heap.size; omega), HB12.out.cell (p := ⟨g, k, none⟩) hgl]
                  exact HCE.out k hlt
                have hxk := HXZ.out xs[k] (List.getElem_mem hlt)
                have HWK := Lib.hid hwk; clear hwk
                have hct : sidesE xs[k].data.toList = Lib.cut xs[k].data.toList [32, 61, 32] := sides_cut (by
                  have := List.any_eq_false.1 HALL.out xs[k].data.toList (by rw [← HXS.out]; exact List.mem_map_of_mem (f := fun y : ByteArray => y.data.toList) (List.getElem_mem hlt))
                  simpa using this)
                have SD := rsides_any xs[k] wr (by omega)
                rw [hct] at SD
                obtain ⟨ct, hct⟩ : ∃ ct, ct = Lib.cut xs[k].data.toList [32, 61, 32] := ⟨_, rfl⟩
                rw [← hct] at SD
                obtain ⟨ca, cb, cq⟩ := ct
                dsimp only at SD
                have HCT := Lib.hid hct; clear hct
                have SD := Lib.hid SD
                go_wp2_with fail
                refine SD.out.mono ?_; clear SD
                rintro e w3 ⟨rfl, hl3⟩
                have hcl := cut_len xs[k].data.toList [32, 61, 32]
                have hdk : (piecesE B.data.toList).drop k = xs[k].data.toList :: (piecesE B.data.toList).drop (k + 1) := by
                  rw [← HXS.out, ← List.map_drop, List.drop_eq_getElem_cons hlt, List.map_cons, List.map_drop]
                have htk : (piecesE B.data.toList).take (k + 1) = (piecesE B.data.toList).take k ++ [xs[k].data.toList] := by
                  rw [← HXS.out, ← List.map_take, List.take_succ_eq_append_getElem hlt, List.map_append, List.map_take]; rfl
                have herr := HERR.out
                rw [hdk, errP, ← HCT.out] at herr
                have hbd : bdP xs[k].data.toList = ((parseE ca).1, (parseE cb).1) := by unfold bdP; rw [← HCT.out]
                rw [← HCT.out, ← size_list] at hcl
                obtain ⟨hca, hcb⟩ : ca.length ≤ xs[k].size ∧ cb.length ≤ xs[k].size := hcl
                have hd0 : Below wr.heap.size wr w3 := hl3.below
                have hbw0 : Below w.heap.size w w3 := below_then HWK.out hd0 HWK.out.size
                have P1 : Calls Tryz.prog 78 #[.string ⟨ca.toArray⟩] w3 (Parsed ca w3) := rparse_any ⟨ca.toArray⟩ w3 (by show ca.toArray.size ≤ _; rw [List.size_toArray]; omega)
                have P2 : Hid (∀ Z, Below wr.heap.size wr Z → Calls Tryz.prog 78 #[.string ⟨cb.toArray⟩] Z (Parsed cb Z)) := Lib.hid fun Z _ => rparse_any ⟨cb.toArray⟩ Z (by show cb.toArray.size ≤ _; rw [List.size_toArray]; omega)
                obtain ⟨⟨u, n⟩, hq⟩ : ∃ q, q = parseE ca := ⟨_, rfl⟩
                obtain ⟨⟨u', n'⟩, hq'⟩ : ∃ q, q = parseE cb := ⟨_, rfl⟩
                unfold Parsed at P1 P2
                rw [← hq] at P1 herr hbd
                rw [← hq'] at P2 herr hbd
                dsimp only at P1 P2 herr hbd
                clear hq hq'
                have HDK := Lib.hid hdk; clear hdk
                have HTK := Lib.hid htk; clear htk
                have HBD := Lib.hid hbd; clear hbd
                have HE := Lib.hid herr; clear herr HERR
                have P1 := Lib.hid P1
                have HD0 := Lib.hid hd0; clear hd0
                have HBW0 := Lib.hid hbw0; clear hbw0
                go_wp2_with fail
                refine P1.out.mono ?_; clear P1
                rintro e w4 ⟨A4, c4, rfl, hr4, hb4⟩
                obtain ⟨X, hX⟩ : ∃ X, X = w4.alloc (.cells #[.int .i64 u.kind, .string u.name, .int .i64 u.sort, .slice A4 u.kids.length c4] 24) := ⟨_, rfl⟩
                have hbX : Below w4.heap.size w4 X := by rw [hX]; exact below1 (Nat.le_refl _) _
                have hsX : X.heap.size = w4.heap.size + 1 := by rw [hX]; simp
                have hux : X.heap[w4.heap.size]? = some (.cells #[.int .i64 u.kind, .string u.name, .int .i64 u.sort, .slice A4 u.kids.length c4] 24 (0, 0)) := by rw [hX]; exact heap_alloc_new _ _
                have hd4 : Below wr.heap.size wr w4 := below_then HD0.out hb4 HD0.out.size
                have hs4 := hd4.size
                have hdX : Below wr.heap.size wr X := below_then hd4 hbX hs4
                have hrX : RepP X (fun b => w3.heap.size ≤ b ∧ b < w4.heap.size) u A4 c4 := RepP.mono (fun _ h => h) (fun p ⟨_, hp⟩ => hbX.cell hp) _ _ _ hr4
                have P2 := Lib.hid (P2.out X hdX)
                have HX := Lib.hid hX; clear hX
                have HUX := Lib.hid hux; clear hux
                have HRX := Lib.hid hrX; clear hrX hr4 hb4
                have HDX := Lib.hid hdX; clear hdX hd4
                simp only [Tm.val]
                rcases eq_facts n 0 with ⟨h0, e0, n0⟩ | ⟨h0, e0, n0⟩
                rotate_left
                · have he : errP (piecesE B.data.toList) = n := by rw [HE.out, if_pos h0]
                  have hb := HB.out
                  rw [he, if_pos h0] at hb
                  subst hb
                  clear HE he P2 h0
                  go_wp2_with fail
                  go_ret2
                  rw [← HX.out]
                  exact parsedS_err (below_then HWK.out HDX.out HWK.out.size)
                subst h0
                have HE1 := Lib.hid (HE.out.trans (if_neg (by simp))); clear HE
                go_wp2_with fail
                rw [← HX.out]
                refine P2.out.mono ?_; clear P2
                rintro e w5 ⟨A5, c5, rfl, hr5, hb5⟩
                obtain ⟨Y, hY⟩ : ∃ Y, Y = w5.alloc (.cells #[.int .i64 u'.kind, .string u'.name, .int .i64 u'.sort, .slice A5 u'.kids.length c5] 24) := ⟨_, rfl⟩
                have hbY : Below w5.heap.size w5 Y := by rw [hY]; exact below1 (Nat.le_refl _) _
                have hsY : Y.heap.size = w5.heap.size + 1 := by rw [hY]; simp
                have huy : Y.heap[w5.heap.size]? = some (.cells #[.int .i64 u'.kind, .string u'.name, .int .i64 u'.sort, .slice A5 u'.kids.length c5] 24 (0, 0)) := by rw [hY]; exact heap_alloc_new _ _
                have hs5 := hb5.size
                have hXY : Below X.heap.size X Y := below_then hb5 hbY hs5
                have hdY : Below wr.heap.size wr Y := below_then HDX.out hXY HDX.out.size
                have hux := (hXY.block _ (by omega)).trans HUX.out
                have hrX : RepP Y (fun b => w3.heap.size ≤ b ∧ b < w4.heap.size) u A4 c4 := RepP.mono (fun _ h => h) (fun p ⟨_, hp⟩ => hXY.cell (by omega)) _ _ _ HRX.out
                have hrY : RepP Y (fun b => X.heap.size ≤ b ∧ b < w5.heap.size) u' A5 c5 := RepP.mono (fun _ h => h) (fun p ⟨_, hp⟩ => hbY.cell hp) _ _ _ hr5
                simp only [Tm.val]
                rcases eq_facts n' 0 with ⟨h1, e1, n1⟩ | ⟨h1, e1, n1⟩
                rotate_left
                · have he : errP (piecesE B.data.toList) = n' := by rw [HE1.out, if_pos h1]
                  have hb := HB.out
                  rw [he, if_pos h1] at hb
                  subst hb
                  have HY := Lib.hid hY
                  have HDY := Lib.hid hdY
                  clear HE1 he hY hdY hux hrX hrY huy hXY hr5 hb5 hbY h1
                  go_wp2_with fail
                  go_ret2
                  rw [← HY.out]
                  exact parsedS_err (below_then HWK.out HDY.out HWK.out.size)
                subst h1
                have HE2 := Lib.hid (HE1.out.trans (if_neg (by simp))); clear HE1
                have hrow := HRB.out.below hdY
                have hdw := HD0.out.size
                have hbYw := below_then HBW.out hdY HBW.out.size
                have hwk := HBW.out.size
                have hlen : its.length + 1 ≤ 100000000 := by have := HM2.out; omega
                obtain ⟨g2, cap2, w6, hap, hrow6, hbl6⟩ := hrow.more2 hbYw.size ((u, A4, c4), (u', A5, c5))
                  (RepP.mono (fun b ⟨g1, g2⟩ => ⟨by show w2.heap.size ≤ b; omega, by omega, fun e => by have := (HRB.out.lt _ e).2; omega⟩) (fun _ _ => rfl) _ _ _ hrX)
                  (RepP.mono (fun b ⟨g1, g2⟩ => ⟨by show w2.heap.size ≤ b; omega, by omega, fun e => by have := (HRB.out.lt _ e).2; have := HDX.out.size; omega⟩) (fun _ _ => rfl) _ _ _ hrY) hlen
                have HBL := Lib.hid (hbl6 _ _ hbYw (Nat.le_refl _)); clear hbl6
                have HROW6 := Lib.hid hrow6; clear hrow6 hrow
                obtain ⟨d0, d1, d2, d3, -⟩ := box_at hux
                obtain ⟨u0, u1, u2, u3, -⟩ := box_at huy
                rw [hY] at d0 d1 d2 d3 u0 u1 u2 u3
                rw [hsY] at hap
                dsimp only at hap
                have HY := Lib.hid hY
                clear hY hdY hux hrX hrY huy hXY hr5 hb5 hbY hbYw
                go_wp2_with (at_builtin; rw [← HY.out]; refine wpList_run_append rfl _ _ rfl rfl rfl hap ?_)
                go_roundw
                case rel =>
                  refine ⟨k + 1, cap2, some ⟨g2, 0, none⟩, its ++ [((u, A4, c4), (u', A5, c5))], by omega, by go_num, by rw [List.length_append]; rfl, by show _ = _; rw [List.length_append, HM2.out]; rfl, by rw [List.length_append]; exact HROW6.out, ?_, HE2.out, ?_⟩
                  · show _ = _
                    rw [List.map_append, HMAP.out, HTK.out, List.map_append, List.map_singleton, List.map_singleton, HBD.out]; rfl
                  · exact HBL.out
                case measure => simp [intOf]; omega
              · obtain rfl : k = xs.length := by omega
                have he : errP (piecesE B.data.toList) = 0 := by
                  have := HERR.out
                  rw [List.drop_eq_nil_of_le (by omega)] at this; exact this
                have hb := HB.out
                rw [if_neg (by rw [he]; simp)] at hb
                obtain ⟨Av, cv, hv, hS⟩ := HRB.out.toB (P := fun b => b < wr.heap.size) (fun b _ h => h) (fun b _ h => h)
                injection hv with hv1 _ hv3
                subst hv1 hv3
                have hmap := HMAP.out
                rw [List.take_of_length_le (by omega)] at hmap
                rw [hmap] at hS
                have hsl : its.length = ((piecesE B.data.toList).map bdP).length := by rw [← hmap]; simp
                have hsz : SizeB ((piecesE B.data.toList).map bdP) := fun b hb => by
                  obtain ⟨p, hp, rfl⟩ := List.mem_map.1 hb
                  have h := pieces_len hp
                  rw [← size_list] at h
                  have := HBS.out
                  exact bdP_size (by omega)
                have SV := rsvalid_any _ A0 c0 wr hsz hS
                rw [← hsl] at SV
                obtain ⟨R, hR⟩ : ∃ R, R = (piecesE B.data.toList).map bdP := ⟨_, rfl⟩
                rw [← hR] at SV hb hS hsl
                obtain ⟨vs, hvs⟩ : ∃ v, v = validS R := ⟨_, rfl⟩
                rw [← hvs] at SV hb
                have SV := Lib.hid SV
                have HS := Lib.hid hS; clear hS
                have HSL := Lib.hid hsl; clear hsl hmap he hR hvs
                have hB3 := Lib.hid (below_then HB2.out HBW.out HB2.out.size)
                rcases eq_facts vs 0 with ⟨h0, e0, n0⟩ | ⟨h0, e0, n0⟩
                · subst h0
                  rw [if_neg (by simp)] at hb
                  have HBB := Lib.hid hb; clear hb
                  go_wp2_with fail
                  refine SV.out.mono ?_; clear SV
                  rintro e w4 ⟨rfl, hl4⟩
                  go_wp2_with fail
                  go_ret2
                  rw [HBB.out]
                  exact ⟨A0, c0, by rw [HSL.out]; rfl, HS.out.go hl4.below hl4.size, below_then hB3.out hl4.below hB3.out.size⟩
                · rw [if_pos h0] at hb
                  have HBB := Lib.hid hb; clear hb h0
                  go_wp2_with fail
                  refine SV.out.mono ?_; clear SV
                  rintro e w4 ⟨rfl, hl4⟩
                  go_wp2_with fail
                  go_ret2
                  rw [HBB.out]
                  exact parsedS_err (below_then hB3.out hl4.below hB3.out.size)
    · have f1 : (c != 123) = false := by simp [hc3]
      have f2 : (z != 125) = true := by simp [hz3]
      have hr : r = ([], 2) := by
        rw [HR.out, if_pos]
        refine .inr (.inr fun e => hz3 ?_)
        rw [List.getElem?_eq_getElem (by omega)] at e
        injection e with e
        rw [hz, e]; rfl
      subst hr
      clear HR hc3 hz3 hc hz e0 e1 hat
      go_enter Tryz.func35, Tryz.ntmps35
      go_wp2_with fail
      go_ret2
      exact parsedS_err (Below.refl _ _)
  · have f1 : (c != 123) = true := by simp [hc3]
    have hr : r = ([], 2) := by
      rw [HR.out, if_pos]
      refine .inr (.inl fun e => hc3 ?_)
      rw [List.getElem?_eq_getElem (by omega)] at e
      injection e with e
      rw [hc, e]; rfl
    subst hr
    clear HR hc3 hc hz e0 e1 hat
    go_enter Tryz.func35, Tryz.ntmps35
    go_wp2_with fail
    go_ret2
    exact parsedS_err (Below.refl _ _)
end Go.Proofs.YtipmibjhlpnhjaaGreatDoor
