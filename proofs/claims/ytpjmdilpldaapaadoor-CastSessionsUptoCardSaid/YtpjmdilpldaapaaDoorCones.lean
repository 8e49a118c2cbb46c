/- The reference's One: all sessions. -/
import Derived.Test.YtpjmdilpldaapaaDoorCtups
import Derived.Test.YtpjmdilpldaapaaDoorCsess0
import Derived.Test.YtpjmdilpldaapaaDoorCright
namespace Go.Proofs.YtpjmdilpldaapaaDoor
open Go.RowKit Go.Sort

/-- rows of sessions are returned -/
def SesOf (w : World) (L : List Ss) (e : Ending) (w' : World) : Prop :=
  ∃ v its, e = .returned v ∧ SeRow w' w.heap.size v its ∧ its.map (·.1) = L ∧ Below w.heap.size w w'
set_option linter.unusedSimpArgs false in
set_option linter.unusedVariables false in
set_option maxHeartbeats 4000000 in
set_option maxRecDepth 100000 in
theorem rones_any (ags bad : List ByteArray) (Aa Ab : Option Addr) (ca cb : Nat) (h6 : ags.length ≤ 6) (ro : Nat) (hro4 : ro ≤ 4) (w : World) (hc : CastW w ags bad Aa ca Ab cb) :
    Calls Tryd.prog 46 #[castV ags bad Aa ca Ab cb, .int .i64 ro] w (SesOf w (allS ags bad ro ro)) := by
  obtain ⟨W0, hW0⟩ : ∃ W0, W0 = w.alloc (.cells #[.slice Aa ags.length ca, .slice Ab bad.length cb] 24) := ⟨_, rfl⟩
  have hl0 : Below w.heap.size w W0 := by rw [hW0]; exact below1 (Nat.le_refl _) _
  have hx0 : W0.heap[w.heap.size]? = some (boxC ags bad Aa ca Ab cb) := by rw [hW0]; exact heap_alloc_new _ _
  have hs0 : w.heap.size < W0.heap.size := by rw [hW0]; simp
  have HC0 := Lib.hid (hc.below hl0)
  obtain ⟨b0, b1, -⟩ := boxC_cells hx0
  have HTU := Lib.hid (tuples_any ags bad Aa Ab ca cb h6 ro W0 hro4 HC0.out.a)
  have HL0 := Lib.hid hl0; have HX0 := Lib.hid hx0; have HS0 := Lib.hid hs0; have HW0 := Lib.hid hW0
  have HT := Lib.hid (tups_len4 h6 (n := ro) hro4)
  clear hl0 hx0 hs0 hW0 hc
  unfold castV at HTU ⊢
  go_enter Tryd.func46, Tryd.ntmps46
  go_wp2_with fail
  rw [← HW0.out]
  refine HTU.out.mono ?_
  rintro e w1 ⟨v1, its1, rfl, hrow1, hits1, hb1⟩
  obtain ⟨A1, c1, rfl⟩ := hrow1.form
  have hlen1 : its1.length = (tups ags ro).length := by have := congrArg List.length hits1; simpa using this
  have hl1 : its1.length ≤ 1296 := by rw [hlen1]; exact HT.out
  have HX1 : Hid (w1.heap[w.heap.size]? = some (boxC ags bad Aa ca Ab cb)) := Lib.hid ((hb1.block _ HS0.out).trans HX0.out)
  have HS1 : Hid (w.heap.size < w1.heap.size) := Lib.hid (by have := hb1.size; have := HS0.out; omega)
  have HB01 : Hid (Below w.heap.size w w1) := Lib.hid (HL0.out.trans (hb1.mono HL0.out.size))
  have HC1 := Lib.hid (HC0.out.below hb1)
  have HR1 := Lib.hid hrow1; have HI1 := Lib.hid hits1; have HN1 := Lib.hid hlen1; have HB1 := Lib.hid hb1
  clear hrow1 hits1 hb1 hlen1 HTU b0 b1 HW0 HX0
  go_wp2_with fail
  go_loopw [5, 7] (fun v i wr => ∃ (k : Nat) (its : List Se), k ≤ ro ∧ i = .int .i64 k ∧ Hid (wr.ownsRow w1.heap.size 63 2 v its.length (its.flatMap seCells)) ∧ Hid (∀ x ∈ its, RepN w1 (fun b => W0.heap.size ≤ b ∧ b < w1.heap.size) x.1.2 x.2.1 x.2.2) ∧ Hid (its.map (·.1) = allS ags bad ro k) ∧ Hid (Below w1.heap.size w1 wr)) (fun _ i _ => ro - (intOf i).toNat)
  case atStart => exact ⟨0, [], Nat.zero_le _, rfl, World.ownsRow_nil _ _ _ _, (fun x hx => nomatch hx), rfl, Below.refl _ _⟩
  case round =>
    obtain ⟨k, its, hk, rfl, HROW, HAG, HITS, HB⟩ := hrel
    have i1 : (0 : Int) ≤ (k : Int) := Int.natCast_nonneg _
    by_cases hlt : k < ro
    · have i2 : (k : Int) < (ro : Int) := by omega
      have HAS := Lib.hid (allS_succ ags bad ro k)
      have hilk : its.length ≤ 5184 := by
        have h1 := congrArg List.length HITS.out
        have h2 := allS_length ags bad ro k
        have h3 : k * (tups ags ro).length ≤ 4 * 1296 := Nat.mul_le_mul (by omega) HT.out
        rw [List.length_map] at h1
        omega
      go_wp2_with fail
      generalize wr = wo at *
      go_loopw [5, 8] (fun v j wq => ∃ (m : Nat) (itm : List Se), m ≤ its1.length ∧ j = .int .i64 m ∧ Hid (wq.ownsRow w1.heap.size 63 2 v itm.length (itm.flatMap seCells)) ∧ Hid (∀ x ∈ itm, RepN w1 (fun b => W0.heap.size ≤ b ∧ b < w1.heap.size) x.1.2 x.2.1 x.2.2) ∧ Hid (itm.map (·.1) = allS ags bad ro k ++ roleS bad ((tups ags ro).take m) k) ∧ itm.length ≤ its.length + m ∧ Hid (Below w1.heap.size w1 wq)) (fun _ j _ => its1.length - (intOf j).toNat)
      case atStart => exact ⟨0, its, Nat.zero_le _, rfl, HROW.out, HAG.out, by show _ = _; rw [HITS.out]; simp [roleS], by omega, HB.out⟩
      case round =>
        obtain ⟨m, itm, hm, rfl, HRQ, HAQ, HIQ, hlm, HBQ⟩ := hrel
        have j1 : (0 : Int) ≤ (m : Int) := Int.natCast_nonneg _
        obtain ⟨d0, d1, -⟩ := boxC_cells ((HBQ.out.block _ HS1.out).trans HX1.out)
        by_cases hltm : m < its1.length
        · have j2 : (m : Int) < (its1.length : Int) := by omega
          have hmt : m < (tups ags ro).length := by have := HN1.out; omega
          obtain ⟨g1, c1', hA1, hslot⟩ := HR1.out.slot m hltm
          have hrp := RepV.mono (P' := fun b => W0.heap.size ≤ b ∧ b < w1.heap.size) (w' := w1) (fun b h => ⟨h.1, h.2.1⟩) (fun _ _ => rfl) (HR1.out.reps its1[m] (List.getElem_mem hltm))
          have hx : its1[m].1 = strs (tups ags ro)[m] := by
            have := congrArg (·[m]?) HI1.out
            simpa [hltm, hmt] using this
          have hrs := roleS_succ bad (tups ags ro) k m hmt
          obtain ⟨hlen, hnd, hmem⟩ := mem_tups ags ro (tups ags ro)[m] (List.getElem_mem hmt)
          obtain ⟨hd, hhd⟩ : ∃ hd, hd = (tups ags ro)[m] := ⟨_, rfl⟩
          rw [← hhd] at hx hrs hlen hmem hnd
          obtain ⟨X, hX⟩ : ∃ X, X = its1[m] := ⟨_, rfl⟩
          rw [← hX] at hslot hrp hx
          clear hX hhd
          obtain ⟨vs, Ah, nh, chd⟩ := X
          simp only at hx hrp
          subst hx
          obtain ⟨rfl, hrn⟩ := hrp.toN (fun x hx => HC1.out.a.2.2.1 x (hmem x hx))
          injection hA1 with hA11 _ hA13
          subst hA11 hA13
          simp only [ivVal] at hslot
          have dsl := (HBQ.out.cell (World.block_lt hslot)).trans hslot
          have hkl : k < hd.length := by omega
          rw [getD_get hd k hkl] at hrs
          have hcn : ∀ Z, Below wr.heap.size wr Z → Calls Tryd.prog 74 #[.agg #[.slice Aa ags.length ca, .slice Ab bad.length cb], .int .i64 ro, .agg #[.int .i64 k, .slice Ah hd.length chd]] Z fun e w' => e = .returned (.bool (!hasS bad hd[k])) ∧ Below Z.heap.size Z w' := fun Z hZ => by
            have hbz : Below w1.heap.size w1 Z := HBQ.out.trans (hZ.mono HBQ.out.size)
            have h := rright_any ags bad hd Aa Ab Ah ca cb chd k k hkl rfl Z (HC1.out.below hbz) (RepN.mono (fun b h => by have := hbz.size; omega) (fun p hp => hbz.cell hp.2) hrn) hnd hmem (by omega)
            unfold castV at h
            rw [hlen] at h ⊢
            exact h
          have HRN := Lib.hid hrn
          obtain ⟨a, ha⟩ : ∃ a, a = hasS bad hd[k] := ⟨_, rfl⟩
          rw [← ha] at hrs hcn
          have HCN := Lib.hid hcn; have HRS := Lib.hid hrs
          have hdl4 : hd.length ≤ 4 := by omega
          clear ha hcn hrs hmem hlen hnd hrp hrn hslot
          obtain ⟨Z, hZ⟩ : ∃ Z, Z = wr.alloc (.cells #[.int .i64 k, .slice Ah hd.length chd] 63) := ⟨_, rfl⟩
          have hbZ : Below wr.heap.size wr Z := by rw [hZ]; exact below1 (Nat.le_refl _) _
          have hyZ : Z.heap[wr.heap.size]? = some (.cells #[.int .i64 k, .slice Ah hd.length chd] 63 (0, 0)) := by rw [hZ]; exact heap_alloc_new _ _
          obtain ⟨e0, e1, -⟩ := boxC_cells ((hbZ.block _ (by have := HBQ.out.size; have := HS1.out; omega)).trans ((HBQ.out.block _ HS1.out).trans HX1.out))
          obtain ⟨f0, f1, -⟩ := cast2_cells hyZ
          have HRT := Lib.hid (HCN.out Z hbZ)
          have HBZ := Lib.hid hbZ; have HYZ := Lib.hid hyZ; have HZ := Lib.hid hZ
          rw [hZ] at e0 e1 f0 f1
          clear hbZ hyZ hZ HCN d0 d1
          cases hq : a with
          | true =>
            rw [hq] at HRS HRT
            have HNX : Hid (roleS bad ((tups ags ro).take (m + 1)) k = roleS bad ((tups ags ro).take m) k) := by show _ = _; rw [HRS.out, if_pos rfl, List.append_nil]
            clear HRS hq
            go_wp2_with fail
            rw [← HZ.out]
            refine HRT.out.mono ?_
            rintro e w3 ⟨rfl, hb3⟩
            have HB3 := Lib.hid (HBQ.out.trans ((HBZ.out.trans (hb3.mono HBZ.out.size)).mono HBQ.out.size))
            have HR3 := Lib.hid (own_below HRQ.out (HBZ.out.trans (hb3.mono HBZ.out.size)))
            clear hb3 e0 e1 f0 f1 HRT HRQ HBQ
            go_wp2_with fail
            go_roundw
            case rel => exact ⟨m + 1, itm, by omega, by go_num, HR3.out, HAQ.out, by show _ = _; rw [HNX.out]; exact HIQ.out, by omega, HB3.out⟩
            case measure => simp [intOf]; omega
          | false =>
            rw [hq] at HRS HRT
            have HNX : Hid (roleS bad ((tups ags ro).take (m + 1)) k = roleS bad ((tups ags ro).take m) k ++ [(k, hd)]) := by show _ = _; rw [HRS.out, if_neg (by simp)]
            clear HRS hq
            go_wp2_with fail
            rw [← HZ.out]
            refine HRT.out.mono ?_
            rintro e w3 ⟨rfl, hb3⟩
            have HB3 := Lib.hid (HBQ.out.trans ((HBZ.out.trans (hb3.mono HBZ.out.size)).mono HBQ.out.size))
            have HR3 := Lib.hid (own_below HRQ.out (HBZ.out.trans (hb3.mono HBZ.out.size)))
            have hy3 := (hb3.block _ (Array.getElem?_eq_some_iff.1 HYZ.out).1).trans HYZ.out
            clear e0 e1 f0 f1 hb3 HRT HRQ HBQ
            obtain ⟨f0, f1, -⟩ := cast2_cells hy3
            clear hy3
            obtain ⟨g5, c5, w5, hap5, ho5, hg5⟩ := row_add slSe HR3.out HB3.out.size (seCells ((k, hd), Ah, chd)) rfl (fun u hu => seCells_one [((k, hd), Ah, chd)] u (by simpa using hu)) (by omega)
            have HB5 := Lib.hid (HB3.out.trans hg5.below)
            have HR5 : Hid (w5.ownsRow w1.heap.size 63 2 (.slice (some ⟨g5, 0, none⟩) (itm.length + 1) c5) (itm ++ [(((k, hd), Ah, chd) : Se)]).length ((itm ++ [(((k, hd), Ah, chd) : Se)]).flatMap seCells)) := Lib.hid (by rw [List.length_append, List.flatMap_append]; simpa using ho5)
            have HI5 : Hid ((itm ++ [(((k, hd), Ah, chd) : Se)]).map (·.1) = allS ags bad ro k ++ roleS bad ((tups ags ro).take (m + 1)) k) := by
              show _ = _; rw [List.map_append, HIQ.out, HNX.out, List.append_assoc]; rfl
            have HA5 : Hid (∀ x ∈ itm ++ [(((k, hd), Ah, chd) : Se)], RepN w1 (fun b => W0.heap.size ≤ b ∧ b < w1.heap.size) x.1.2 x.2.1 x.2.2) := Lib.hid fun x hx => by
              rcases List.mem_append.1 hx with h | h
              · exact HAQ.out x h
              · rw [List.mem_singleton.1 h]; exact HRN.out
            have hl5 : (itm ++ [(((k, hd), Ah, chd) : Se)]).length = itm.length + 1 := by simp
            have HL5 := Lib.hid hl5
            generalize itm ++ [(((k, hd), Ah, chd) : Se)] = it5 at *
            simp only [seCells] at hap5
            clear ho5 hg5 hl5 HIQ HNX HAQ HR3
            go_wp2_with (at_builtin; refine wpList_run_append rfl _ _ rfl rfl rfl hap5 ?_)
            clear hap5
            go_roundw
            case rel => exact ⟨m + 1, it5, by omega, by go_num, HR5.out, HA5.out, HI5.out, by have := HL5.out; omega, HB5.out⟩
            case measure => simp [intOf]; omega
        · obtain rfl : m = its1.length := by omega
          have HI : Hid (itm.map (·.1) = allS ags bad ro (k + 1)) := by show _ = _; rw [HIQ.out, HAS.out, HN1.out, List.take_length]
          clear HIQ d0 d1
          go_wp2_with fail
          go_roundw
          case rel => exact ⟨k + 1, itm, by omega, by go_num, HRQ.out, HAQ.out, HI.out, HBQ.out⟩
          case measure => simp [intOf]; omega
    · obtain rfl : k = ro := by omega
      have hsr : SeRow wr w.heap.size u5 its := ⟨own_loosen HROW.out HB01.out.size, fun x hx => (HAG.out x hx).mono (fun b h => ⟨by have := HL0.out.size; omega, by have := HB.out.size; omega, fun e => by have := HROW.out.lt b e; omega⟩) (fun p hp => HB.out.cell hp.2)⟩
      have HSR := Lib.hid hsr
      clear hsr
      go_wp2_with fail
      go_ret
      exact ⟨_, its, rfl, HSR.out, HITS.out, HB01.out.trans (HB.out.mono HB01.out.size)⟩
end Go.Proofs.YtpjmdilpldaapaaDoor
