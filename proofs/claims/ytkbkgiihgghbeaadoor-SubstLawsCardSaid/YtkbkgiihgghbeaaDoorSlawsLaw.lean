/- The law SubstLaws, walked. -/
import Derived.Test.YtkbkgiihgghbeaaDoorSlawsHead
import Derived.Test.YtkbkgiihgghbeaaDoorSapplyLaw
import Derived.Test.YtkbkgiihgghbeaaDoorSmadev
import Derived.Test.YtkbkgiihgghbeaaDoorSopenD
import Derived.Test.YtkbkgiihgghbeaaDoorScomposeLaw
namespace Go.Proofs.YtkbkgiihgghbeaaDoor
open Go.RowKit Go.Sort

set_option maxHeartbeats 2000000 in
set_option maxRecDepth 100000 in
theorem laws_law (d g : Dr) (b : List Nat) (Ad Ag : A3) (Ab : Option Addr) (cd cg : C3) (cb : Nat) (w : World) (hw : Words w.heap.size w) (hrd : RepD w w.heap.size d Ad cd) (hrg : RepD w w.heap.size g Ag cg) (hrb : RepU w (fun b => b < w.heap.size) b Ab cb) :
    Calls Tryd.prog 6 #[dval d Ad cd, dval g Ag cg, .slice Ab b.length cb] w fun e w' => e = .returned (.bool true) ∧ Below w.heap.size w w' := by
  have mixed : Tryd.prog.follows .mixedOrders = true := by kernel_rfl
  have hb1 := hrb.1
  have hb2 := hrb.2.1
  unfold maxLen at hb2
  have HRD : Hid (∀ Z, Below w.heap.size w Z → RepD Z Z.heap.size d Ad cd) := Lib.hid fun Z h => ⟨hrd.x.go h h.size, hrd.y.go h h.size, hrd.z.go h h.size, hrd.n⟩
  have HRG : Hid (∀ Z, Below w.heap.size w Z → RepD Z Z.heap.size g Ag cg) := Lib.hid fun Z h => ⟨hrg.x.go h h.size, hrg.y.go h h.size, hrg.z.go h h.size, hrg.n⟩
  have HRB : Hid (∀ Z, Below w.heap.size w Z → RepU Z (fun b => b < Z.heap.size) b Ab cb) := Lib.hid fun Z h => hrb.go h h.size
  have HWW := Lib.hid hw; clear hw hrd hrg hrb
  have AWK : Hid (∀ Z, Below w.heap.size w Z → Calls Tryd.prog 9 #[] Z fun e w' => e = .returned (.bool true) ∧ Below Z.heap.size Z w') := Lib.hid fun Z h => sawake_any Z (HWW.out.below h)
  obtain ⟨V, hV⟩ : ∃ V, V = (w.alloc (.cells #[.slice Ad.1 d.1.length cd.1, .slice Ad.2.1 d.2.1.length cd.2.1, .slice Ad.2.2 d.2.2.1.length cd.2.2, .int .u8 d.2.2.2] 38)).alloc (.cells #[.slice Ag.1 g.1.length cg.1, .slice Ag.2.1 g.2.1.length cg.2.1, .slice Ag.2.2 g.2.2.1.length cg.2.2, .int .u8 g.2.2.2] 38) := ⟨_, rfl⟩
  have hbV : Below w.heap.size w V := by rw [hV]; exact (below1 (Nat.le_refl _) _).alloc (by simp) _
  have hsV : V.heap.size = w.heap.size + 2 := by rw [hV]; simp
  have hx1 : V.heap[w.heap.size]? = some (.cells #[.slice Ad.1 d.1.length cd.1, .slice Ad.2.1 d.2.1.length cd.2.1, .slice Ad.2.2 d.2.2.1.length cd.2.2, .int .u8 d.2.2.2] 38 (0, 0)) := by rw [hV, Below.heap_alloc _ _ _ (by simp)]; exact heap_alloc_new _ _
  have hx2 : V.heap[w.heap.size + 1]? = some (.cells #[.slice Ag.1 g.1.length cg.1, .slice Ag.2.1 g.2.1.length cg.2.1, .slice Ag.2.2 g.2.2.1.length cg.2.2, .int .u8 g.2.2.2] 38 (0, 0)) := by
    rw [hV]
    have h := heap_alloc_new (w.alloc (.cells #[.slice Ad.1 d.1.length cd.1, .slice Ad.2.1 d.2.1.length cd.2.1, .slice Ad.2.2 d.2.2.1.length cd.2.2, .int .u8 d.2.2.2] 38)) (.cells #[.slice Ag.1 g.1.length cg.1, .slice Ag.2.1 g.2.1.length cg.2.1, .slice Ag.2.2 g.2.2.1.length cg.2.2, .int .u8 g.2.2.2] 38)
    rw [World.size_alloc] at h; exact h
  have HX1 : Hid (∀ Z, Below V.heap.size V Z → Z.heap[w.heap.size]? = some (.cells #[.slice Ad.1 d.1.length cd.1, .slice Ad.2.1 d.2.1.length cd.2.1, .slice Ad.2.2 d.2.2.1.length cd.2.2, .int .u8 d.2.2.2] 38 (0, 0))) := Lib.hid fun Z h => (h.block _ (by omega)).trans hx1
  have HX2 : Hid (∀ Z, Below V.heap.size V Z → Z.heap[w.heap.size + 1]? = some (.cells #[.slice Ag.1 g.1.length cg.1, .slice Ag.2.1 g.2.1.length cg.2.1, .slice Ag.2.2 g.2.2.1.length cg.2.2, .int .u8 g.2.2.2] 38 (0, 0))) := Lib.hid fun Z h => (h.block _ (by omega)).trans hx2
  have HBV := Lib.hid hbV; clear hbV hsV hx1 hx2
  have HV := Lib.hid hV; clear hV
  simp only [dval]
  go_enter Tryd.func6, Tryd.ntmps6
  go_wp2_with fail
  rw [← HV.out]
  refine (AWK.out V HBV.out).mono ?_; clear HV
  rintro e w1 ⟨rfl, hb1'⟩
  have HC1 := Lib.hid hb1'; clear hb1'
  obtain ⟨d0, d1, d2, d3⟩ := draft_at (HX1.out w1 HC1.out)
  go_wp2_with fail
  refine (few_draft _ _ _ _ _ _ _ _ _ _ w1).mono ?_; clear d0 d1 d2 d3
  rintro e w2 ⟨q1, rfl, hl2⟩
  have HC2 := Lib.hid (below_then HC1.out hl2.below HC1.out.size); clear hl2 HC1
  cases q1 with
  | false =>
    go_wp2_with fail
    refine (AWK.out w2 (below_then HBV.out HC2.out HBV.out.size)).mono ?_
    rintro e w3 ⟨rfl, hb3⟩
    go_wp2_with fail
    go_ret
    exact ⟨rfl, below_then (below_then HBV.out HC2.out HBV.out.size) hb3 (by have := HBV.out.size; have := HC2.out.size; omega)⟩
  | true =>
    obtain ⟨d0, d1, d2, d3⟩ := draft_at (HX2.out w2 HC2.out)
    go_wp2_with fail
    refine (few_draft _ _ _ _ _ _ _ _ _ _ w2).mono ?_; clear d0 d1 d2 d3
    rintro e w3 ⟨q2, rfl, hl3⟩
    have HC3 := Lib.hid (below_then HC2.out hl3.below HC2.out.size); clear hl3 HC2
    cases q2 with
    | false =>
      go_wp2_with fail
      refine (AWK.out w3 (below_then HBV.out HC3.out HBV.out.size)).mono ?_
      rintro e w4 ⟨rfl, hb4⟩
      go_wp2_with fail
      go_ret
      exact ⟨rfl, below_then (below_then HBV.out HC3.out HBV.out.size) hb4 (by have := HBV.out.size; have := HC3.out.size; omega)⟩
    | true =>
      by_cases hbig : 30 < b.length
      · have hb0 : decide (30 < b.length) = true := decide_eq_true hbig
        go_wp2_with fail
        refine (AWK.out w3 (below_then HBV.out HC3.out HBV.out.size)).mono ?_
        rintro e w4 ⟨rfl, hb4⟩
        go_wp2_with fail
        go_ret
        exact ⟨rfl, below_then (below_then HBV.out HC3.out HBV.out.size) hb4 (by have := HBV.out.size; have := HC3.out.size; omega)⟩
      · have hb0 : decide (30 < b.length) = false := decide_eq_false hbig
        have HWC := Lib.hid (below_then HBV.out HC3.out HBV.out.size)
        have hav := madeE_valid d.1 d.2.1 d.2.2.1 d.2.2.2
        have htv := madeE_valid g.1 g.2.1 g.2.2.1 g.2.2.2
        have huv := growN_valid b
        have MC : Hid (∀ Z, Below w3.heap.size w3 Z → Calls Tryd.prog 20 #[.agg #[.slice Ad.1 d.1.length cd.1, .slice Ad.2.1 d.2.1.length cd.2.1, .slice Ad.2.2 d.2.2.1.length cd.2.2, .int .u8 d.2.2.2]] Z fun e w' => ∃ A c, e = .returned (.slice A (madeE d.1 d.2.1 d.2.2.1 d.2.2.2).length c) ∧ RepB w' (fun b => b < w'.heap.size) (madeE d.1 d.2.1 d.2.2.1 d.2.2.2) A c ∧ Below Z.heap.size Z w') := Lib.hid fun Z h => by
          have hr := HRD.out Z (below_then HWC.out h HWC.out.size)
          exact made_any d.1 d.2.1 d.2.2.1 d.2.2.2 Ad.1 Ad.2.1 Ad.2.2 cd.1 cd.2.1 cd.2.2 Z hr.n hr.x hr.y hr.z
        have MD : Hid (∀ Z, Below w3.heap.size w3 Z → Calls Tryd.prog 20 #[.agg #[.slice Ag.1 g.1.length cg.1, .slice Ag.2.1 g.2.1.length cg.2.1, .slice Ag.2.2 g.2.2.1.length cg.2.2, .int .u8 g.2.2.2]] Z fun e w' => ∃ A c, e = .returned (.slice A (madeE g.1 g.2.1 g.2.2.1 g.2.2.2).length c) ∧ RepB w' (fun b => b < w'.heap.size) (madeE g.1 g.2.1 g.2.2.1 g.2.2.2) A c ∧ Below Z.heap.size Z w') := Lib.hid fun Z h => by
          have hr := HRG.out Z (below_then HWC.out h HWC.out.size)
          exact made_any g.1 g.2.1 g.2.2.1 g.2.2.2 Ag.1 Ag.2.1 Ag.2.2 cg.1 cg.2.1 cg.2.2 Z hr.n hr.x hr.y hr.z
        have MG : Hid (∀ Z, Below w3.heap.size w3 Z → Calls Tryd.prog 21 #[.slice Ab b.length cb] Z fun e w' => ∃ A' c', e = .returned ((growN b).val A' c') ∧ RepP w' (fun b => Z.heap.size ≤ b ∧ b < w'.heap.size) (growN b) A' c' ∧ Below Z.heap.size Z w') := Lib.hid fun Z h => grown_any b Ab cb Z (HRB.out Z (below_then HWC.out h HWC.out.size))
        obtain ⟨hsz, hsl⟩ := madeE_size d.1 d.2.1 d.2.2.1 d.2.2.2
        obtain ⟨htz, htl⟩ := madeE_size g.1 g.2.1 g.2.2.1 g.2.2.2
        have huz := growN_size b
        generalize madeE d.1 d.2.1 d.2.2.1 d.2.2.2 = s at *
        generalize madeE g.1 g.2.1 g.2.2.1 g.2.2.2 = t at *
        generalize growN b = u at *
        have HAV := Lib.hid hav; clear hav
        have HTV := Lib.hid htv; clear htv
        have HUV := Lib.hid huv; clear huv
        have HSZ := Lib.hid hsz; clear hsz
        have HTZ := Lib.hid htz; clear htz
        have HUZ := Lib.hid huz; clear huz
        simp only [Tm.val] at MG
        go_wp2_with fail
        have hS : Below w3.heap.size w3 w3.drew := (Below.refl _ _).drew
        have HS := Lib.hid hS; clear hS
        have HF1 : Hid (∀ Y, Below w3.heap.size w3 Y → Y.heap[w.heap.size]? = some (.cells #[.slice Ad.1 d.1.length cd.1, .slice Ad.2.1 d.2.1.length cd.2.1, .slice Ad.2.2 d.2.2.1.length cd.2.2, .int .u8 d.2.2.2] 38 (0, 0))) := Lib.hid fun Y h => HX1.out Y (below_then HC3.out h HC3.out.size)
        have HF2 : Hid (∀ Y, Below w3.heap.size w3 Y → Y.heap[w.heap.size + 1]? = some (.cells #[.slice Ag.1 g.1.length cg.1, .slice Ag.2.1 g.2.1.length cg.2.1, .slice Ag.2.2 g.2.2.1.length cg.2.2, .int .u8 g.2.2.2] 38 (0, 0))) := Lib.hid fun Y h => HX2.out Y (below_then HC3.out h HC3.out.size)
        refine region_cut (fun a0 a' w' => ∃ bx A1 c1 A2 c2 A3 c3, a' = (((((((((a0.put (some 42) (.agg #[.slice Ad.1 d.1.length cd.1, .slice Ad.2.1 d.2.1.length cd.2.1, .slice Ad.2.2 d.2.2.1.length cd.2.2, .int .u8 d.2.2.2])).put (some 44) (.agg #[.slice Ag.1 g.1.length cg.1, .slice Ag.2.1 g.2.1.length cg.2.1, .slice Ag.2.2 g.2.2.1.length cg.2.2, .int .u8 g.2.2.2])).put (some 46) (.slice Ab b.length cb)).put (some 43) (.slice A1 s.length c1)).put (some 45) (.slice A2 t.length c2)).put (some 47) (.agg #[.int .i64 u.kind, .string u.name, .int .i64 u.sort, .slice A3 u.kids.length c3])).put (some 9) (.pointer (some ⟨bx, 0, none⟩))).put (some 7) (.slice A1 s.length c1)).put (some 8) (.slice A2 t.length c2)) ∧ RepB w' (fun b => b < w'.heap.size) s A1 c1 ∧ RepB w' (fun b => b < w'.heap.size) t A2 c2 ∧ BoxT w' bx u A3 c3 ∧ Below w3.heap.size w3 w') ?_ ?_
        · refine wp_region_mix (fun Y => Below w3.heap.size w3 Y) 9 (.held 0 (.held 2 (.held 4 (.two 1 6 (.two 3 6 (.two 5 6 (.op 6 (.op 7 (.op 8 (.op 9 .nil)))) (.op 5 (.op 7 (.op 8 (.op 9 .nil))))) (.op 3 (.op 5 (.op 7 (.op 8 (.op 9 .nil)))))) (.op 1 (.op 3 (.op 5 (.op 7 (.op 8 (.op 9 .nil)))))))))) mixed (by kernel_rfl) ?_
          refine mix_take (v := .agg #[.slice Ad.1 d.1.length cd.1, .slice Ad.2.1 d.2.1.length cd.2.1, .slice Ad.2.2 d.2.2.1.length cd.2.2, .int .u8 d.2.2.2]) rfl rfl (fun _ _ _ h => nomatch h.1) HS.out (fun Y hY => by
            obtain ⟨z0, z1, z2, z3⟩ := draft_at (HF1.out Y hY)
            (try simp only [Act.put]); go_simp) ?_
          refine mix_take (v := .agg #[.slice Ag.1 g.1.length cg.1, .slice Ag.2.1 g.2.1.length cg.2.1, .slice Ag.2.2 g.2.2.1.length cg.2.2, .int .u8 g.2.2.2]) rfl rfl (fun _ _ _ h => nomatch h.1) HS.out (fun Y hY => by
            obtain ⟨z0, z1, z2, z3⟩ := draft_at (HF2.out Y hY)
            (try simp only [Act.put]); go_simp) ?_
          refine mix_take (v := .slice Ab b.length cb) rfl rfl (fun _ _ _ h => nomatch h.1) HS.out (fun Y hY => by (try simp only [Act.put]); go_simp) ?_
          simp only [Act.put, List.setIfInBounds_toArray]
          refine mix_two ?_ ?_
          · skip
            refine mix_op rfl rfl (fun K hK => ?_)
            go_wp2_with fail
            refine (MC.out _ HS.out).mono ?_
            rintro e y1 ⟨A1, c1, rfl, hr, hb⟩
            have hS := below_then HS.out hb HS.out.size
            refine hK _ _ ⟨fun _ => hS, ?_⟩; clear hK K HS
            have HS := Lib.hid hS; clear hS
            have HRA := Lib.hid hr; clear hr hb
            refine mix_two ?_ ?_
            · skip
              refine mix_op rfl rfl (fun K hK => ?_)
              go_wp2_with fail
              refine (MD.out _ HS.out).mono ?_
              rintro e y2 ⟨A2, c2, rfl, hr, hb⟩
              have hS := below_then HS.out hb HS.out.size
              refine hK _ _ ⟨fun _ => hS, ?_⟩; clear hK K HS
              have HS := Lib.hid hS; clear hS
              have HRAx := Lib.hid (HRA.out.go hb hb.size); clear HRA
              have HRA := HRAx; clear HRAx
              have HRT := Lib.hid hr; clear hr hb
              refine mix_two ?_ ?_
              · skip
                refine mix_op rfl rfl (fun K hK => ?_)
                go_wp2_with fail
                refine (MG.out _ HS.out).mono ?_
                rintro e y3 ⟨A3, c3, rfl, hr, hb⟩
                have hS := below_then HS.out hb HS.out.size
                refine hK _ _ ⟨fun _ => hS, ?_⟩; clear hK K HS
                have HS := Lib.hid hS; clear hS
                have HRAx := Lib.hid (HRA.out.go hb hb.size); clear HRA
                have HRA := HRAx; clear HRAx
                have HRTx := Lib.hid (HRT.out.go hb hb.size); clear HRT
                have HRT := HRTx; clear HRTx
                have HRU : Hid (RepT y3 y3.heap.size u A3 c3) := RepP.mono (fun b h => h.2) (fun _ _ => rfl) _ _ _ hr
                clear hr hb
                try simp only [Tm.val]
                refine mix_op rfl rfl (fun K hK => ?_)
                go_wp2_with fail
                refine ⟨fun _ => HS.out.alloc HS.out.size _, ?_⟩
                obtain ⟨bx, hbx⟩ : ∃ b, b = y3.heap.size := ⟨_, rfl⟩
                obtain ⟨y4, hY⟩ : ∃ X, X = y3.alloc (.cells #[.int .i64 0, .string ⟨#[]⟩, .int .i64 0, .slice none 0 0] 30) := ⟨_, rfl⟩
                have hS : Below w3.heap.size w3 y4 := by rw [hY]; exact HS.out.alloc HS.out.size _
                have hzb : y4.heap[bx]? = some (.cells #[.int .i64 0, .string ⟨#[]⟩, .int .i64 0, .slice none 0 0] 30 (0, 0)) := by rw [hY, hbx]; exact heap_alloc_new _ _
                have hbl : w3.heap.size ≤ bx := by rw [hbx]; exact HS.out.size
                have hb : Below y3.heap.size y3 y4 := by rw [hY]; exact below1 (Nat.le_refl _) _
                rw [← hY, ← hbx]
                have HZB := Lib.hid hzb; clear hzb
                have HBL := Lib.hid hbl; clear hbl
                clear HS hY hbx
                have HS := Lib.hid hS; clear hS
                have HRAx := Lib.hid (HRA.out.go hb hb.size); clear HRA
                have HRA := HRAx; clear HRAx
                have HRTx := Lib.hid (HRT.out.go hb hb.size); clear HRT
                have HRT := HRTx; clear HRTx
                have HRUx := Lib.hid (HRU.out.go hb hb.size); clear HRU
                have HRU := HRUx; clear HRUx
                clear hb
                refine mix_op rfl rfl (fun K hK => ?_)
                go_wp2_with fail
                refine ⟨fun _ => HS.out, ?_⟩
                refine mix_op rfl rfl (fun K hK => ?_)
                go_wp2_with fail
                refine ⟨fun _ => HS.out, ?_⟩
                have hfin := laws_fin HBL.out HS.out HZB.out HAV.out HTV.out HUV.out HRA.out HRT.out HRU.out
                obtain ⟨z0, z1, z2, z3, zf⟩ := box_at HZB.out
                have HFIN := Lib.hid hfin; clear hfin HRA HRT HRU HS HBL HZB
                refine mix_op rfl rfl (fun K hK => ?_)
                go_wp2_with fail
                exact ⟨rfl, bx, A1, c1, A2, c2, A3, c3, rfl, HFIN.out⟩
              · skip
                refine mix_op rfl rfl (fun K hK => ?_)
                go_wp2_with fail
                refine ⟨fun _ => HS.out.alloc HS.out.size _, ?_⟩
                obtain ⟨bx, hbx⟩ : ∃ b, b = y2.heap.size := ⟨_, rfl⟩
                obtain ⟨y3, hY⟩ : ∃ X, X = y2.alloc (.cells #[.int .i64 0, .string ⟨#[]⟩, .int .i64 0, .slice none 0 0] 30) := ⟨_, rfl⟩
                have hS : Below w3.heap.size w3 y3 := by rw [hY]; exact HS.out.alloc HS.out.size _
                have hzb : y3.heap[bx]? = some (.cells #[.int .i64 0, .string ⟨#[]⟩, .int .i64 0, .slice none 0 0] 30 (0, 0)) := by rw [hY, hbx]; exact heap_alloc_new _ _
                have hbl : w3.heap.size ≤ bx := by rw [hbx]; exact HS.out.size
                have hb : Below y2.heap.size y2 y3 := by rw [hY]; exact below1 (Nat.le_refl _) _
                rw [← hY, ← hbx]
                have HZB := Lib.hid hzb; clear hzb
                have HBL := Lib.hid hbl; clear hbl
                clear HS hY hbx
                have HS := Lib.hid hS; clear hS
                have HRAx := Lib.hid (HRA.out.go hb hb.size); clear HRA
                have HRA := HRAx; clear HRAx
                have HRTx := Lib.hid (HRT.out.go hb hb.size); clear HRT
                have HRT := HRTx; clear HRTx
                clear hb
                refine mix_op rfl rfl (fun K hK => ?_)
                go_wp2_with fail
                refine (MG.out _ HS.out).mono ?_
                rintro e y4 ⟨A3, c3, rfl, hr, hb⟩
                have hS := below_then HS.out hb HS.out.size
                refine hK _ _ ⟨fun _ => hS, ?_⟩; clear hK K HS
                have HS := Lib.hid hS; clear hS
                have HRAx := Lib.hid (HRA.out.go hb hb.size); clear HRA
                have HRA := HRAx; clear HRAx
                have HRTx := Lib.hid (HRT.out.go hb hb.size); clear HRT
                have HRT := HRTx; clear HRTx
                have HZBx := Lib.hid ((hb.block bx (Array.getElem?_eq_some_iff.1 HZB.out).1).trans HZB.out); clear HZB
                have HZB := HZBx; clear HZBx
                have HRU : Hid (RepT y4 y4.heap.size u A3 c3) := RepP.mono (fun b h => h.2) (fun _ _ => rfl) _ _ _ hr
                clear hr hb
                try simp only [Tm.val]
                refine mix_op rfl rfl (fun K hK => ?_)
                go_wp2_with fail
                refine ⟨fun _ => HS.out, ?_⟩
                refine mix_op rfl rfl (fun K hK => ?_)
                go_wp2_with fail
                refine ⟨fun _ => HS.out, ?_⟩
                have hfin := laws_fin HBL.out HS.out HZB.out HAV.out HTV.out HUV.out HRA.out HRT.out HRU.out
                obtain ⟨z0, z1, z2, z3, zf⟩ := box_at HZB.out
                have HFIN := Lib.hid hfin; clear hfin HRA HRT HRU HS HBL HZB
                refine mix_op rfl rfl (fun K hK => ?_)
                go_wp2_with fail
                exact ⟨rfl, bx, A1, c1, A2, c2, A3, c3, rfl, HFIN.out⟩
            · skip
              refine mix_op rfl rfl (fun K hK => ?_)
              go_wp2_with fail
              refine ⟨fun _ => HS.out.alloc HS.out.size _, ?_⟩
              obtain ⟨bx, hbx⟩ : ∃ b, b = y1.heap.size := ⟨_, rfl⟩
              obtain ⟨y2, hY⟩ : ∃ X, X = y1.alloc (.cells #[.int .i64 0, .string ⟨#[]⟩, .int .i64 0, .slice none 0 0] 30) := ⟨_, rfl⟩
              have hS : Below w3.heap.size w3 y2 := by rw [hY]; exact HS.out.alloc HS.out.size _
              have hzb : y2.heap[bx]? = some (.cells #[.int .i64 0, .string ⟨#[]⟩, .int .i64 0, .slice none 0 0] 30 (0, 0)) := by rw [hY, hbx]; exact heap_alloc_new _ _
              have hbl : w3.heap.size ≤ bx := by rw [hbx]; exact HS.out.size
              have hb : Below y1.heap.size y1 y2 := by rw [hY]; exact below1 (Nat.le_refl _) _
              rw [← hY, ← hbx]
              have HZB := Lib.hid hzb; clear hzb
              have HBL := Lib.hid hbl; clear hbl
              clear HS hY hbx
              have HS := Lib.hid hS; clear hS
              have HRAx := Lib.hid (HRA.out.go hb hb.size); clear HRA
              have HRA := HRAx; clear HRAx
              clear hb
              refine mix_op rfl rfl (fun K hK => ?_)
              go_wp2_with fail
              refine (MD.out _ HS.out).mono ?_
              rintro e y3 ⟨A2, c2, rfl, hr, hb⟩
              have hS := below_then HS.out hb HS.out.size
              refine hK _ _ ⟨fun _ => hS, ?_⟩; clear hK K HS
              have HS := Lib.hid hS; clear hS
              have HRAx := Lib.hid (HRA.out.go hb hb.size); clear HRA
              have HRA := HRAx; clear HRAx
              have HZBx := Lib.hid ((hb.block bx (Array.getElem?_eq_some_iff.1 HZB.out).1).trans HZB.out); clear HZB
              have HZB := HZBx; clear HZBx
              have HRT := Lib.hid hr; clear hr hb
              refine mix_op rfl rfl (fun K hK => ?_)
              go_wp2_with fail
              refine (MG.out _ HS.out).mono ?_
              rintro e y4 ⟨A3, c3, rfl, hr, hb⟩
              have hS := below_then HS.out hb HS.out.size
              refine hK _ _ ⟨fun _ => hS, ?_⟩; clear hK K HS
              have HS := Lib.hid hS; clear hS
              have HRAx := Lib.hid (HRA.out.go hb hb.size); clear HRA
              have HRA := HRAx; clear HRAx
              have HRTx := Lib.hid (HRT.out.go hb hb.size); clear HRT
              have HRT := HRTx; clear HRTx
              have HZBx := Lib.hid ((hb.block bx (Array.getElem?_eq_some_iff.1 HZB.out).1).trans HZB.out); clear HZB
              have HZB := HZBx; clear HZBx
              have HRU : Hid (RepT y4 y4.heap.size u A3 c3) := RepP.mono (fun b h => h.2) (fun _ _ => rfl) _ _ _ hr
              clear hr hb
              try simp only [Tm.val]
              refine mix_op rfl rfl (fun K hK => ?_)
              go_wp2_with fail
              refine ⟨fun _ => HS.out, ?_⟩
              refine mix_op rfl rfl (fun K hK => ?_)
              go_wp2_with fail
              refine ⟨fun _ => HS.out, ?_⟩
              have hfin := laws_fin HBL.out HS.out HZB.out HAV.out HTV.out HUV.out HRA.out HRT.out HRU.out
              obtain ⟨z0, z1, z2, z3, zf⟩ := box_at HZB.out
              have HFIN := Lib.hid hfin; clear hfin HRA HRT HRU HS HBL HZB
              refine mix_op rfl rfl (fun K hK => ?_)
              go_wp2_with fail
              exact ⟨rfl, bx, A1, c1, A2, c2, A3, c3, rfl, HFIN.out⟩
          · skip
            refine mix_op rfl rfl (fun K hK => ?_)
            go_wp2_with fail
            refine ⟨fun _ => HS.out.alloc HS.out.size _, ?_⟩
            obtain ⟨y1, hY⟩ : ∃ X, X = (w3.alloc (.cells #[.int .i64 0, .string ⟨#[]⟩, .int .i64 0, .slice none 0 0] 30)).drew := ⟨_, rfl⟩
            have hS : Below w3.heap.size w3 y1 := by rw [hY]; exact (below1 (Nat.le_refl _) _).drew
            have hzb : y1.heap[w3.heap.size]? = some (.cells #[.int .i64 0, .string ⟨#[]⟩, .int .i64 0, .slice none 0 0] 30 (0, 0)) := by rw [hY]; exact heap_alloc_new _ _
            have hbl : w3.heap.size ≤ w3.heap.size := Nat.le_refl _
            rw [← hY]
            have HZB := Lib.hid hzb; clear hzb
            have HBL := Lib.hid hbl; clear hbl
            clear HS hY
            have HS := Lib.hid hS; clear hS
            refine mix_op rfl rfl (fun K hK => ?_)
            go_wp2_with fail
            refine (MC.out _ HS.out).mono ?_
            rintro e y2 ⟨A1, c1, rfl, hr, hb⟩
            have hS := below_then HS.out hb HS.out.size
            refine hK _ _ ⟨fun _ => hS, ?_⟩; clear hK K HS
            have HS := Lib.hid hS; clear hS
            have HZBx := Lib.hid ((hb.block w3.heap.size (Array.getElem?_eq_some_iff.1 HZB.out).1).trans HZB.out); clear HZB
            have HZB := HZBx; clear HZBx
            have HRA := Lib.hid hr; clear hr hb
            refine mix_op rfl rfl (fun K hK => ?_)
            go_wp2_with fail
            refine (MD.out _ HS.out).mono ?_
            rintro e y3 ⟨A2, c2, rfl, hr, hb⟩
            have hS := below_then HS.out hb HS.out.size
            refine hK _ _ ⟨fun _ => hS, ?_⟩; clear hK K HS
            have HS := Lib.hid hS; clear hS
            have HRAx := Lib.hid (HRA.out.go hb hb.size); clear HRA
            have HRA := HRAx; clear HRAx
            have HZBx := Lib.hid ((hb.block w3.heap.size (Array.getElem?_eq_some_iff.1 HZB.out).1).trans HZB.out); clear HZB
            have HZB := HZBx; clear HZBx
            have HRT := Lib.hid hr; clear hr hb
            refine mix_op rfl rfl (fun K hK => ?_)
            go_wp2_with fail
            refine (MG.out _ HS.out).mono ?_
            rintro e y4 ⟨A3, c3, rfl, hr, hb⟩
            have hS := below_then HS.out hb HS.out.size
            refine hK _ _ ⟨fun _ => hS, ?_⟩; clear hK K HS
            have HS := Lib.hid hS; clear hS
            have HRAx := Lib.hid (HRA.out.go hb hb.size); clear HRA
            have HRA := HRAx; clear HRAx
            have HRTx := Lib.hid (HRT.out.go hb hb.size); clear HRT
            have HRT := HRTx; clear HRTx
            have HZBx := Lib.hid ((hb.block w3.heap.size (Array.getElem?_eq_some_iff.1 HZB.out).1).trans HZB.out); clear HZB
            have HZB := HZBx; clear HZBx
            have HRU : Hid (RepT y4 y4.heap.size u A3 c3) := RepP.mono (fun b h => h.2) (fun _ _ => rfl) _ _ _ hr
            clear hr hb
            try simp only [Tm.val]
            refine mix_op rfl rfl (fun K hK => ?_)
            go_wp2_with fail
            refine ⟨fun _ => HS.out, ?_⟩
            refine mix_op rfl rfl (fun K hK => ?_)
            go_wp2_with fail
            refine ⟨fun _ => HS.out, ?_⟩
            have hfin := laws_fin HBL.out HS.out HZB.out HAV.out HTV.out HUV.out HRA.out HRT.out HRU.out
            obtain ⟨z0, z1, z2, z3, zf⟩ := box_at HZB.out
            have HFIN := Lib.hid hfin; clear hfin HRA HRT HRU HS HBL HZB
            refine mix_op rfl rfl (fun K hK => ?_)
            go_wp2_with fail
            exact ⟨rfl, w3.heap.size, A1, c1, A2, c2, A3, c3, rfl, HFIN.out⟩
        rintro a' w4 ⟨bx, A1, c1, A2, c2, A3, c3, rfl, hr1, hr2, hbu, hb4⟩
        simp only [Act.put, List.setIfInBounds_toArray, List.set_cons_succ, List.set_cons_zero]
        clear MC MD MG HS HF1 HF2
        have RS := Lib.hid hr1; clear hr1
        have RT := Lib.hid hr2; clear hr2
        have BU := Lib.hid hbu; clear hbu
        have BW := Lib.hid hb4; clear hb4
        obtain ⟨hl1, hl2⟩ := laws_plain HAV.out HTV.out HUV.out
        have hz1 := composeE_size s t
        have hz2 := composeE_size t s
        have hz6 := composeE_size (composeE s t).1 s
        have hz7 := composeE_size s (composeE t s).1
        have hz3 := ApplyE_size (composeE s t).1 u
        have hz4 := ApplyE_size s u
        have hz5 := ApplyE_size t (ApplyE s u).1
        have K1 := fun Z h1 h2 => scompose_any s t A1 A2 c1 c2 Z HSZ.out HTZ.out h1 h2
        have K2 := fun Z h1 h2 => scompose_any t s A2 A1 c2 c1 Z HTZ.out HSZ.out h1 h2
        have K3 := fun A c Z h1 h2 => sApply_any (composeE s t).1 A c hz1 u A3 c3 Z (by have := HUZ.out; omega) h1 h2
        have K4 := fun Z h1 h2 => sApply_any s A1 c1 HSZ.out u A3 c3 Z (by have := HUZ.out; omega) h1 h2
        have K5 := fun A c Z h1 h2 => sApply_any t A2 c2 HTZ.out (ApplyE s u).1 A c Z hz4 h1 h2
        have K6 := fun A c Z h1 h2 => scompose_any (composeE s t).1 s A A1 c c1 Z hz1 HSZ.out h1 h2
        have K7 := fun A c Z h1 h2 => scompose_any s (composeE t s).1 A1 A c1 c Z HSZ.out hz2 h1 h2
        have HL1 := Lib.hid hl1; clear hl1
        have HL2 := Lib.hid hl2; clear hl2
        have HZ1 := Lib.hid hz1; clear hz1
        have HZ2 := Lib.hid hz2; clear hz2
        have HZ3 := Lib.hid hz3; clear hz3
        have HZ4 := Lib.hid hz4; clear hz4
        have HZ5 := Lib.hid hz5; clear hz5
        have HZ6 := Lib.hid hz6; clear hz6
        have HZ7 := Lib.hid hz7; clear hz7
        generalize composeE (composeE s t).1 s = p6 at *
        generalize composeE s (composeE t s).1 = p7 at *
        generalize ApplyE (composeE s t).1 u = p3 at *
        generalize ApplyE t (ApplyE s u).1 = p5 at *
        generalize composeE s t = p1 at *
        generalize composeE t s = p2 at *
        generalize ApplyE s u = p4 at *
        obtain ⟨st, n1⟩ := p1
        obtain ⟨ts, n2⟩ := p2
        obtain ⟨x, n3⟩ := p3
        obtain ⟨y, n4⟩ := p4
        obtain ⟨z, n5⟩ := p5
        obtain ⟨le, n6⟩ := p6
        obtain ⟨ri, n7⟩ := p7
        dsimp only at HL1 HL2 HZ1 HZ2 HZ3 HZ4 HZ5 HZ6 HZ7 K1 K2 K3 K4 K5 K6 K7
        have K1 := Lib.hid K1
        have K2 := Lib.hid K2
        have K3 := Lib.hid K3
        have K4 := Lib.hid K4
        have K5 := Lib.hid K5
        have K6 := Lib.hid K6
        have K7 := Lib.hid K7
        simp only [Tm.val] at K3 K4 K5
        clear HAV HTV HUV
        go_wp2_with fail
        refine (K1.out w4 RS.out RT.out).mono ?_; clear K1
        rintro e w5 ⟨A5, c5, rfl, hr, hb⟩
        have RSx := Lib.hid (RS.out.go hb hb.size); clear RS
        have RS := RSx; clear RSx
        have RTx := Lib.hid (RT.out.go hb hb.size); clear RT
        have RT := RTx; clear RTx
        have BUx := Lib.hid (BU.out.below hb); clear BU
        have BU := BUx; clear BUx
        have BWx := Lib.hid (below_then BW.out hb BW.out.size); clear BW
        have BW := BWx; clear BWx
        have RST : Hid (RepB w5 (fun b => b < w5.heap.size) st A5 c5) := RepB.mono (fun b h => h.2) (fun _ _ => rfl) hr
        clear hr hb
        dsimp only
        go_wp2_with fail
        refine (K2.out w5 RT.out RS.out).mono ?_; clear K2
        rintro e w6 ⟨A6, c6, rfl, hr, hb⟩
        have RSx := Lib.hid (RS.out.go hb hb.size); clear RS
        have RS := RSx; clear RSx
        have RTx := Lib.hid (RT.out.go hb hb.size); clear RT
        have RT := RTx; clear RTx
        have BUx := Lib.hid (BU.out.below hb); clear BU
        have BU := BUx; clear BUx
        have BWx := Lib.hid (below_then BW.out hb BW.out.size); clear BW
        have BW := BWx; clear BWx
        have RSTx := Lib.hid (RST.out.go hb hb.size); clear RST
        have RST := RSTx; clear RSTx
        have RTS : Hid (RepB w6 (fun b => b < w6.heap.size) ts A6 c6) := RepB.mono (fun b h => h.2) (fun _ _ => rfl) hr
        clear hr hb
        dsimp only
        obtain ⟨x0, x1, x2, x3, -⟩ := box_at BU.out.1
        go_wp2_with fail
        refine (K3.out A5 c5 w6 RST.out BU.out.2).mono ?_; clear K3 x0 x1 x2 x3
        rintro e w7 ⟨A7, c7, rfl, hr, hb⟩
        obtain ⟨X7, hX⟩ : ∃ X, X = w7.alloc (boxOf x A7 c7) := ⟨_, rfl⟩
        have hbX : Below w7.heap.size w7 X7 := by rw [hX]; exact below1 (Nat.le_refl _) _
        have BX : Hid (BoxT X7 w7.heap.size x A7 c7) := by rw [hX]; exact BoxT.new (RepP.mono (fun b h => h.2) (fun _ _ => rfl) _ _ _ hr)
        have hbb := below_then hb hbX hb.size
        have RSx := Lib.hid (RS.out.go hbb hbb.size); clear RS
        have RS := RSx; clear RSx
        have RTx := Lib.hid (RT.out.go hbb hbb.size); clear RT
        have RT := RTx; clear RTx
        have BUx := Lib.hid (BU.out.below hbb); clear BU
        have BU := BUx; clear BUx
        have BWx := Lib.hid (below_then BW.out hbb BW.out.size); clear BW
        have BW := BWx; clear BWx
        have RSTx := Lib.hid (RST.out.go hbb hbb.size); clear RST
        have RST := RSTx; clear RSTx
        have RTSx := Lib.hid (RTS.out.go hbb hbb.size); clear RTS
        have RTS := RTSx; clear RTSx
        clear hr hb hbX hbb
        simp only [boxOf] at hX
        try simp only [Tm.val]
        obtain ⟨x0, x1, x2, x3, -⟩ := box_at BU.out.1
        rw [hX] at x0 x1 x2 x3
        have HX := Lib.hid hX; clear hX
        go_wp2_with fail
        rw [← HX.out]
        refine (K4.out X7 RS.out BU.out.2).mono ?_; clear K4 x0 x1 x2 x3 HX
        rintro e w8 ⟨A8, c8, rfl, hr, hb⟩
        obtain ⟨X8, hX⟩ : ∃ X, X = w8.alloc (boxOf y A8 c8) := ⟨_, rfl⟩
        have hbX : Below w8.heap.size w8 X8 := by rw [hX]; exact below1 (Nat.le_refl _) _
        have BY : Hid (BoxT X8 w8.heap.size y A8 c8) := by rw [hX]; exact BoxT.new (RepP.mono (fun b h => h.2) (fun _ _ => rfl) _ _ _ hr)
        have hbb := below_then hb hbX hb.size
        have RSx := Lib.hid (RS.out.go hbb hbb.size); clear RS
        have RS := RSx; clear RSx
        have RTx := Lib.hid (RT.out.go hbb hbb.size); clear RT
        have RT := RTx; clear RTx
        have BUx := Lib.hid (BU.out.below hbb); clear BU
        have BU := BUx; clear BUx
        have BWx := Lib.hid (below_then BW.out hbb BW.out.size); clear BW
        have BW := BWx; clear BWx
        have RSTx := Lib.hid (RST.out.go hbb hbb.size); clear RST
        have RST := RSTx; clear RSTx
        have RTSx := Lib.hid (RTS.out.go hbb hbb.size); clear RTS
        have RTS := RTSx; clear RTSx
        have BXx := Lib.hid (BX.out.below hbb); clear BX
        have BX := BXx; clear BXx
        clear hr hb hbX hbb
        simp only [boxOf] at hX
        try simp only [Tm.val]
        obtain ⟨x0, x1, x2, x3, -⟩ := box_at BY.out.1
        rw [hX] at x0 x1 x2 x3
        have HX := Lib.hid hX; clear hX
        go_wp2_with fail
        rw [← HX.out]
        refine (K5.out A8 c8 X8 RT.out BY.out.2).mono ?_; clear K5 x0 x1 x2 x3 HX
        rintro e w9 ⟨A9, c9, rfl, hr, hb⟩
        obtain ⟨X9, hX⟩ : ∃ X, X = w9.alloc (boxOf z A9 c9) := ⟨_, rfl⟩
        have hbX : Below w9.heap.size w9 X9 := by rw [hX]; exact below1 (Nat.le_refl _) _
        have BZ : Hid (BoxT X9 w9.heap.size z A9 c9) := by rw [hX]; exact BoxT.new (RepP.mono (fun b h => h.2) (fun _ _ => rfl) _ _ _ hr)
        have hbb := below_then hb hbX hb.size
        have RSx := Lib.hid (RS.out.go hbb hbb.size); clear RS
        have RS := RSx; clear RSx
        have RTx := Lib.hid (RT.out.go hbb hbb.size); clear RT
        have RT := RTx; clear RTx
        have BUx := Lib.hid (BU.out.below hbb); clear BU
        have BU := BUx; clear BUx
        have BWx := Lib.hid (below_then BW.out hbb BW.out.size); clear BW
        have BW := BWx; clear BWx
        have RSTx := Lib.hid (RST.out.go hbb hbb.size); clear RST
        have RST := RSTx; clear RSTx
        have RTSx := Lib.hid (RTS.out.go hbb hbb.size); clear RTS
        have RTS := RTSx; clear RTSx
        have BXx := Lib.hid (BX.out.below hbb); clear BX
        have BX := BXx; clear BXx
        have BYx := Lib.hid (BY.out.below hbb); clear BY
        have BY := BYx; clear BYx
        clear hr hb hbX hbb
        simp only [boxOf] at hX
        try simp only [Tm.val]
        have HX := Lib.hid hX; clear hX
        go_wp2_with fail
        rw [← HX.out]
        refine (K6.out A5 c5 X9 RST.out RS.out).mono ?_; clear K6 HX
        rintro e w10 ⟨A10, c10, rfl, hr, hb⟩
        have RSx := Lib.hid (RS.out.go hb hb.size); clear RS
        have RS := RSx; clear RSx
        have RTx := Lib.hid (RT.out.go hb hb.size); clear RT
        have RT := RTx; clear RTx
        have BUx := Lib.hid (BU.out.below hb); clear BU
        have BU := BUx; clear BUx
        have BWx := Lib.hid (below_then BW.out hb BW.out.size); clear BW
        have BW := BWx; clear BWx
        have RSTx := Lib.hid (RST.out.go hb hb.size); clear RST
        have RST := RSTx; clear RSTx
        have RTSx := Lib.hid (RTS.out.go hb hb.size); clear RTS
        have RTS := RTSx; clear RTSx
        have BXx := Lib.hid (BX.out.below hb); clear BX
        have BX := BXx; clear BXx
        have BYx := Lib.hid (BY.out.below hb); clear BY
        have BY := BYx; clear BYx
        have BZx := Lib.hid (BZ.out.below hb); clear BZ
        have BZ := BZx; clear BZx
        have RL : Hid (RepB w10 (fun b => b < w10.heap.size) le A10 c10) := RepB.mono (fun b h => h.2) (fun _ _ => rfl) hr
        clear hr hb
        dsimp only
        go_wp2_with fail
        refine (K7.out A6 c6 w10 RS.out RTS.out).mono ?_; clear K7
        rintro e w11 ⟨A11, c11, rfl, hr, hb⟩
        have RSx := Lib.hid (RS.out.go hb hb.size); clear RS
        have RS := RSx; clear RSx
        have RTx := Lib.hid (RT.out.go hb hb.size); clear RT
        have RT := RTx; clear RTx
        have BUx := Lib.hid (BU.out.below hb); clear BU
        have BU := BUx; clear BUx
        have BWx := Lib.hid (below_then BW.out hb BW.out.size); clear BW
        have BW := BWx; clear BWx
        have RSTx := Lib.hid (RST.out.go hb hb.size); clear RST
        have RST := RSTx; clear RSTx
        have RTSx := Lib.hid (RTS.out.go hb hb.size); clear RTS
        have RTS := RTSx; clear RTSx
        have BXx := Lib.hid (BX.out.below hb); clear BX
        have BX := BXx; clear BXx
        have BYx := Lib.hid (BY.out.below hb); clear BY
        have BY := BYx; clear BYx
        have BZx := Lib.hid (BZ.out.below hb); clear BZ
        have BZ := BZx; clear BZx
        have RLx := Lib.hid (RL.out.go hb hb.size); clear RL
        have RL := RLx; clear RLx
        have RR : Hid (RepB w11 (fun b => b < w11.heap.size) ri A11 c11) := RepB.mono (fun b h => h.2) (fun _ _ => rfl) hr
        clear hr hb RTS RT RS BU BY
        dsimp only
        have HEND := Lib.hid (below_then HWC.out BW.out HWC.out.size)
        rcases eq_facts n1 0 with ⟨g1, e1, m1⟩ | ⟨g1, e1, m1⟩
        rotate_left
        · obtain rfl : n1 = 3 := HL1.out.resolve_left g1
          clear g1
          go_wp2_with fail
          go_ret
          exact ⟨rfl, HEND.out⟩
        subst g1
        rcases eq_facts n2 0 with ⟨g1, f1, m1⟩ | ⟨g1, f1, m1⟩
        rotate_left
        · clear g1
          go_wp2_with fail
          go_ret
          exact ⟨rfl, HEND.out⟩
        subst g1
        clear f1 m1
        rcases eq_facts n3 0 with ⟨g1, f1, m1⟩ | ⟨g1, f1, m1⟩
        rotate_left
        · clear g1
          go_wp2_with fail
          go_ret
          exact ⟨rfl, HEND.out⟩
        subst g1
        clear f1 m1
        rcases eq_facts n4 0 with ⟨g1, f1, m1⟩ | ⟨g1, f1, m1⟩
        rotate_left
        · clear g1
          go_wp2_with fail
          go_ret
          exact ⟨rfl, HEND.out⟩
        subst g1
        clear f1 m1
        rcases eq_facts n5 0 with ⟨g1, f1, m1⟩ | ⟨g1, f1, m1⟩
        rotate_left
        · clear g1
          go_wp2_with fail
          go_ret
          exact ⟨rfl, HEND.out⟩
        subst g1
        clear f1 m1
        obtain ⟨hv, hxz, hlr⟩ := HL2.out rfl rfl rfl rfl rfl
        subst hxz
        have VA := svalid_any st A5 c5 w11 HZ1.out RST.out
        rw [hv] at VA
        have VA := Lib.hid VA; clear hv
        have HLR := Lib.hid hlr; clear hlr
        go_wp2_with fail
        refine VA.out.mono ?_; clear VA
        rintro e w12 ⟨rfl, hl12⟩
        have hb := hl12.below
        have RSTx := Lib.hid (RST.out.go hb hb.size); clear RST
        have RST := RSTx; clear RSTx
        have BXx := Lib.hid (BX.out.below hb); clear BX
        have BX := BXx; clear BXx
        have BZx := Lib.hid (BZ.out.below hb); clear BZ
        have BZ := BZx; clear BZx
        have RLx := Lib.hid (RL.out.go hb hb.size); clear RL
        have RL := RLx; clear RLx
        have RRx := Lib.hid (RR.out.go hb hb.size); clear RR
        have RR := RRx; clear RRx
        have HENDx := Lib.hid (below_then HEND.out hb HEND.out.size); clear HEND
        have HEND := HENDx; clear HENDx
        clear hb hl12
        have SM := rsame_any x x A7 A9 c7 c9 w12 HZ3.out HZ3.out BX.out.2 BZ.out.2
        rw [Tm.same_iff.2 rfl] at SM
        have SM := Lib.hid SM
        simp only [Tm.val] at SM
        obtain ⟨x0, x1, x2, x3, -⟩ := box_at BX.out.1
        obtain ⟨y0, y1, y2, y3, -⟩ := box_at BZ.out.1
        go_wp2_with fail
        refine SM.out.mono ?_; clear SM x0 x1 x2 x3 y0 y1 y2 y3
        rintro e w13 ⟨rfl, hl13⟩
        have hb := hl13.below
        have RSTx := Lib.hid (RST.out.go hb hb.size); clear RST
        have RST := RSTx; clear RSTx
        have BXx := Lib.hid (BX.out.below hb); clear BX
        have BX := BXx; clear BXx
        have BZx := Lib.hid (BZ.out.below hb); clear BZ
        have BZ := BZx; clear BZx
        have RLx := Lib.hid (RL.out.go hb hb.size); clear RL
        have RL := RLx; clear RLx
        have RRx := Lib.hid (RR.out.go hb hb.size); clear RR
        have RR := RRx; clear RRx
        have HENDx := Lib.hid (below_then HEND.out hb HEND.out.size); clear HEND
        have HEND := HENDx; clear HENDx
        clear hb hl13
        rcases eq_facts n6 0 with ⟨g1, f1, m1⟩ | ⟨g1, f1, m1⟩
        rotate_left
        · clear g1
          go_wp2_with fail
          go_ret
          exact ⟨rfl, HEND.out⟩
        rcases eq_facts n7 0 with ⟨g2, f2, m2⟩ | ⟨g2, f2, m2⟩
        rotate_left
        · clear g2
          go_wp2_with fail
          go_ret
          exact ⟨rfl, HEND.out⟩
        have hlr := HLR.out g1 g2
        subst hlr g1 g2
        have SB := rsameB_any le le A10 A11 c10 c11 w13 HZ6.out HZ6.out RL.out RR.out
        rw [decide_eq_true rfl] at SB
        have SB := Lib.hid SB
        go_wp2_with fail
        refine SB.out.mono ?_; clear SB
        rintro e w14 ⟨rfl, hl14⟩
        go_wp2_with fail
        go_ret
        exact ⟨rfl, below_then HEND.out hl14.below HEND.out.size⟩

end Go.Proofs.YtkbkgiihgghbeaaDoor
