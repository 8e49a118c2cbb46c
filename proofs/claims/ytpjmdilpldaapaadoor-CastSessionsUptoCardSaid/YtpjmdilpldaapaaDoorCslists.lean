/- The reference's SameLists, of equal values. -/
import Derived.Test.YtpjmdilpldaapaaDoorCsame
import Derived.Test.YtpjmdilpldaapaaDoorCslat
namespace Go.Proofs.YtpjmdilpldaapaaDoor
open Go.RowKit Go.Sort

theorem RepN.fwd2 {w w' : World} {l : List ByteArray} {A : Option Addr} {cap : Nat} (h : RepN w (fun b => b < w.heap.size) l A cap) (hb : Below w.heap.size w w') : RepN w' (fun b => b < w'.heap.size) l A cap :=
  h.go hb hb.size
attribute [local irreducible] wpMix4
set_option linter.unusedSimpArgs false in
set_option linter.unusedVariables false in
set_option maxHeartbeats 4000000 in
set_option maxRecDepth 100000 in
theorem same_lists (L : List (List Ss)) (A A' : Option Addr) (c c' : Nat) (w : World) (h : RepSL w (fun b => b < w.heap.size) L A c) (h' : RepSL w (fun b => b < w.heap.size) L A' c') (hL : L.length ≤ 1000000) (hS : ∀ l ∈ L, l.length ≤ 1000000 ∧ ∀ s ∈ l, s.2.length ≤ 1000000) :
    Calls Tryd.prog 15 #[.slice A L.length c, .slice A' L.length c'] w fun e w' => e = .returned (.bool true) ∧ Below w.heap.size w w' := by
  have mixed : Tryd.prog.follows .mixedOrders = true := by kernel_rfl
  have hll : ((L.length : Int) != (L.length : Int)) = false := bne_self_eq_false _
  have HR := Lib.hid h; have HR' := Lib.hid h'; have HS := Lib.hid hS
  obtain ⟨cc, hcc⟩ : ∃ x : Nat × Nat, L.length ≤ c ∧ c ≤ maxLen ∧ L.length ≤ c' ∧ c' ≤ maxLen := by
    obtain ⟨_, _, _, _, _, _, h5⟩ := h
    obtain ⟨_, _, _, _, _, _, h6⟩ := h'
    exact ⟨(0, 0), h5.2.1, h5.2.2.1, h6.2.1, h6.2.2.1⟩
  obtain ⟨q1, q2, q3, q4⟩ := hcc
  unfold maxLen at q2 q4
  clear h h' hS
  go_enter Tryd.func15, Tryd.ntmps15
  go_wp2_with fail
  go_loopw [5] (fun v wr => ∃ i : Nat, i ≤ L.length ∧ v = .int .i64 i ∧ Hid (Below w.heap.size w wr)) (fun v _ => L.length - (intOf v).toNat)
  case atStart => exact ⟨0, Nat.zero_le _, rfl, Below.refl _ _⟩
  case round =>
    obtain ⟨i, hi, rfl, HB⟩ := hrel
    have i1 : (0 : Int) ≤ (i : Int) := Int.natCast_nonneg _
    by_cases hlt : i < L.length
    · have i2 : (i : Int) < (L.length : Int) := by omega
      obtain ⟨b, off, Ai, ci, hA, hb, hcA, hn1, hm1, hk1⟩ := repSL_at HR.out i hlt
      obtain ⟨b2, off2, Bi, di, hA', hb2, hcB, hn2, hm2, hk2⟩ := repSL_at HR'.out i hlt
      subst hA hA'
      obtain ⟨hls, hss⟩ := HS.out L[i] (List.getElem_mem hlt)
      unfold maxLen at hm1 hm2
      have HK1 := Lib.hid hk1; have HK2 := Lib.hid hk2; have HSS0 := Lib.hid hss
      have cA := (HB.out.cell (p := ⟨b, off + i, none⟩) hb).trans hcA
      have cB := (HB.out.cell (p := ⟨b2, off2 + i, none⟩) hb2).trans hcB
      have HCA := Lib.hid hcA; have HCB := Lib.hid hcB; have HBb := Lib.hid hb; have HBb2 := Lib.hid hb2
      clear hk1 hk2 hss hcA hcB hb hb2
      generalize L[i] = l at *
      have hnn : ((l.length : Int) != (l.length : Int)) = false := bne_self_eq_false _
      go_wp2_with fail
      refine wp_region_mix4 (fun _ => True) (fun Y => Below wr.drew.heap.size wr.drew Y) [] (.held 0 (.held 1 (.held 2 (.held 3 (.held 4 (.held 5 (.held 6 (.held 7 (.held 8 (.held 9 (.held 10 .nil))))))))))) mixed (by kernel_rfl) ?_
      have dA : wr.drew.cell? ⟨b, off + i, none⟩ = some (.slice Ai l.length ci) := cA
      have dB : wr.drew.cell? ⟨b2, off2 + i, none⟩ = some (.slice Bi l.length di) := cB
      have HB6 := Lib.hid HB.out.drew
      clear cA cB HB
      generalize wr.drew = D at *
      refine mix4_take (v := .slice (some ⟨b, off, none⟩) L.length c) rfl rfl rfl (fun _ _ _ h => h) trivial (Below.refl D.heap.size D) (fun Y _ hY => by
        (try simp only [Act.put]); go_simp) ?_
      refine mix4_take (v := .int .i64 i) rfl rfl rfl (fun _ _ _ h => h) trivial (Below.refl D.heap.size D) (fun Y _ hY => by
        (try simp only [Act.put]); go_simp) ?_
      refine mix4_take (v := .pointer (some ⟨b, off + i, none⟩)) rfl rfl rfl (fun _ _ _ h => h) trivial (Below.refl D.heap.size D) (fun Y _ hY => by
        (try simp only [Act.put]); go_simp) ?_
      refine mix4_take (v := .slice Ai l.length ci) rfl rfl rfl (fun _ _ _ h => h) trivial (Below.refl D.heap.size D) (fun Y _ hY => by
        have z0 := (hY.cell (World.block_lt dA)).trans dA
        clear hY dA dB
        (try simp only [Act.put]); go_simp) ?_
      (try simp only [Act.put, List.setIfInBounds_toArray, List.set_cons_succ, List.set_cons_zero, List.getElem_toArray, List.getElem_cons_succ, List.getElem_cons_zero])
      refine mix4_take (v := .int .i64 l.length) rfl rfl rfl (fun _ _ _ h => h) trivial (Below.refl D.heap.size D) (fun Y _ hY => by
        (try simp only [Act.put]); go_simp) ?_
      refine mix4_take (v := (.slice (some ⟨b2, off2, none⟩) L.length c')) rfl rfl rfl (fun _ _ _ h => h) trivial (Below.refl D.heap.size D) (fun Y _ hY => by
        (try simp only [Act.put]); go_simp) ?_
      refine mix4_take (v := .int .i64 i) rfl rfl rfl (fun _ _ _ h => h) trivial (Below.refl D.heap.size D) (fun Y _ hY => by
        (try simp only [Act.put]); go_simp) ?_
      refine mix4_take (v := .pointer (some ⟨b2, off2 + i, none⟩)) rfl rfl rfl (fun _ _ _ h => h) trivial (Below.refl D.heap.size D) (fun Y _ hY => by
        (try simp only [Act.put]); go_simp) ?_
      (try simp only [Act.put, List.setIfInBounds_toArray, List.set_cons_succ, List.set_cons_zero, List.getElem_toArray, List.getElem_cons_succ, List.getElem_cons_zero])
      refine mix4_take (v := .slice Bi l.length di) rfl rfl rfl (fun _ _ _ h => h) trivial (Below.refl D.heap.size D) (fun Y _ hY => by
        have z0 := (hY.cell (World.block_lt dB)).trans dB
        clear hY dA dB
        (try simp only [Act.put]); go_simp) ?_
      refine mix4_take (v := .int .i64 l.length) rfl rfl rfl (fun _ _ _ h => h) trivial (Below.refl D.heap.size D) (fun Y _ hY => by
        (try simp only [Act.put]); go_simp) ?_
      refine mix4_take (v := .bool false) rfl rfl rfl (fun _ _ _ h => h) trivial (Below.refl D.heap.size D) (fun Y _ hY => by
        (try simp only [Act.put]); go_simp) ?_
      (try simp only [Act.put, List.setIfInBounds_toArray, List.set_cons_succ, List.set_cons_zero, List.getElem_toArray, List.getElem_cons_succ, List.getElem_cons_zero])
      refine mix4_nil ?_
      go_wp2_with fail
      clear dA dB
      go_loopw [6] (fun v wr => ∃ k : Nat, k ≤ l.length ∧ v = .int .i64 k ∧ Hid (Below w.heap.size w wr)) (fun v _ => l.length - (intOf v).toNat)
      case atStart => exact ⟨0, Nat.zero_le _, rfl, HB6.out⟩
      case round =>
        obtain ⟨k, hk, rfl, HBQ⟩ := hrel
        have k1 : (0 : Int) ≤ (k : Int) := Int.natCast_nonneg _
        have qA := (HBQ.out.cell (p := ⟨b, off + i, none⟩) HBb.out).trans HCA.out
        have qB := (HBQ.out.cell (p := ⟨b2, off2 + i, none⟩) HBb2.out).trans HCB.out
        by_cases hltk : k < l.length
        · have k2 : (k : Int) < (l.length : Int) := by omega
          obtain ⟨b3, off3, Ax, cx, hAi, hb3, hm0, hm1', hra⟩ := HK1.out k hltk
          obtain ⟨b4, off4, Bx, dx, hBi, hb4, hn0, hn1', hrb⟩ := HK2.out k hltk
          subst hAi hBi
          have m0 := (HBQ.out.cell (p := ⟨b3, off3 + k * 2, none⟩) hb3).trans hm0
          have m1 := (HBQ.out.cell (p := ⟨b3, off3 + (k * 2 + 1), none⟩) hb3).trans hm1'
          have n0 := (HBQ.out.cell (p := ⟨b4, off4 + k * 2, none⟩) hb4).trans hn0
          have n1 := (HBQ.out.cell (p := ⟨b4, off4 + (k * 2 + 1), none⟩) hb4).trans hn1'
          have HRA := Lib.hid (hra.fwd2 HBQ.out); have HRB := Lib.hid (hrb.fwd2 HBQ.out)
          have HSN := Lib.hid (HSS0.out l[k] (List.getElem_mem hltk))
          clear hb3 hb4 hm0 hm1' hn0 hn1' hra hrb
          obtain ⟨ro, hro⟩ : ∃ r : Int, r = (l[k].1 : Int) := ⟨_, rfl⟩
          rw [← hro] at m0 n0
          generalize l[k].2 = sg at *
          clear hro
          go_wp2_with fail
          refine wp_region_mix4 (fun _ => True) (fun Y => Below wr.drew.heap.size wr.drew Y) [] (.held 0 (.held 1 (.held 2 (.held 3 (.held 4 (.held 5 (.held 6 (.held 7 (.held 8 (.held 9 (.held 10 (.held 11 (.held 12 (.held 13 (.op 14 (.held 15 .nil)))))))))))))))) mixed (by kernel_rfl) ?_
          have dA : wr.drew.cell? ⟨b, off + i, none⟩ = some (.slice (some ⟨b3, off3, none⟩) l.length ci) := qA
          have dB : wr.drew.cell? ⟨b2, off2 + i, none⟩ = some (.slice (some ⟨b4, off4, none⟩) l.length di) := qB
          have e0 : wr.drew.cell? ⟨b3, off3 + k * 2, none⟩ = some (.int .i64 ro) := m0
          have e1 : wr.drew.cell? ⟨b3, off3 + k * 2 + 1, none⟩ = some (.slice Ax sg.length cx) := m1
          have g0 : wr.drew.cell? ⟨b4, off4 + k * 2, none⟩ = some (.int .i64 ro) := n0
          have g1 : wr.drew.cell? ⟨b4, off4 + k * 2 + 1, none⟩ = some (.slice Bx sg.length dx) := n1
          have HB11 := Lib.hid HBQ.out.drew
          have HSS := Lib.hid (same_sess ro sg Ax Bx cx dx wr.drew (HRA.out.fwd2 (Below.refl _ _).drew) (HRB.out.fwd2 (Below.refl _ _).drew) HSN.out)
          clear qA qB m0 m1 n0 n1 HBQ HRA HRB
          generalize wr.drew = D at *
          refine mix4_take (v := .slice (some ⟨b, off, none⟩) L.length c) rfl rfl rfl (fun _ _ _ h => h) trivial (Below.refl D.heap.size D) (fun Y _ hY => by
            (try simp only [Act.put]); go_simp) ?_
          refine mix4_take (v := .int .i64 i) rfl rfl rfl (fun _ _ _ h => h) trivial (Below.refl D.heap.size D) (fun Y _ hY => by
            (try simp only [Act.put]); go_simp) ?_
          refine mix4_take (v := .pointer (some ⟨b, off + i, none⟩)) rfl rfl rfl (fun _ _ _ h => h) trivial (Below.refl D.heap.size D) (fun Y _ hY => by
            (try simp only [Act.put]); go_simp) ?_
          refine mix4_take (v := (.slice (some ⟨b3, off3, none⟩) l.length ci)) rfl rfl rfl (fun _ _ _ h => h) trivial (Below.refl D.heap.size D) (fun Y _ hY => by
            have z0 := (hY.cell (World.block_lt dA)).trans dA
            clear hY dA dB e0 e1 g0 g1
            (try simp only [Act.put]); go_simp) ?_
          (try simp only [Act.put, List.setIfInBounds_toArray, List.set_cons_succ, List.set_cons_zero, List.getElem_toArray, List.getElem_cons_succ, List.getElem_cons_zero])
          refine mix4_take (v := .int .i64 k) rfl rfl rfl (fun _ _ _ h => h) trivial (Below.refl D.heap.size D) (fun Y _ hY => by
            (try simp only [Act.put]); go_simp) ?_
          refine mix4_take (v := (.pointer (some ⟨b3, off3 + k * 2, none⟩))) rfl rfl rfl (fun _ _ _ h => h) trivial (Below.refl D.heap.size D) (fun Y _ hY => by
            (try simp only [Act.put]); go_simp) ?_
          refine mix4_take (v := .agg #[.int .i64 ro, .slice Ax sg.length cx]) rfl rfl rfl (fun _ _ _ h => h) trivial (Below.refl D.heap.size D) (fun Y _ hY => by
            have z0 := (hY.cell (World.block_lt e0)).trans e0
            have z1 := (hY.cell (World.block_lt e1)).trans e1
            clear hY dA dB e0 e1 g0 g1
            (try simp only [Act.put]); go_simp) ?_
          refine mix4_take (v := (.slice (some ⟨b2, off2, none⟩) L.length c')) rfl rfl rfl (fun _ _ _ h => h) trivial (Below.refl D.heap.size D) (fun Y _ hY => by
            (try simp only [Act.put]); go_simp) ?_
          (try simp only [Act.put, List.setIfInBounds_toArray, List.set_cons_succ, List.set_cons_zero, List.getElem_toArray, List.getElem_cons_succ, List.getElem_cons_zero])
          refine mix4_take (v := .int .i64 i) rfl rfl rfl (fun _ _ _ h => h) trivial (Below.refl D.heap.size D) (fun Y _ hY => by
            (try simp only [Act.put]); go_simp) ?_
          refine mix4_take (v := .pointer (some ⟨b2, off2 + i, none⟩)) rfl rfl rfl (fun _ _ _ h => h) trivial (Below.refl D.heap.size D) (fun Y _ hY => by
            (try simp only [Act.put]); go_simp) ?_
          refine mix4_take (v := (.slice (some ⟨b4, off4, none⟩) l.length di)) rfl rfl rfl (fun _ _ _ h => h) trivial (Below.refl D.heap.size D) (fun Y _ hY => by
            have z0 := (hY.cell (World.block_lt dB)).trans dB
            clear hY dA dB e0 e1 g0 g1
            (try simp only [Act.put]); go_simp) ?_
          refine mix4_take (v := .int .i64 k) rfl rfl rfl (fun _ _ _ h => h) trivial (Below.refl D.heap.size D) (fun Y _ hY => by
            (try simp only [Act.put]); go_simp) ?_
          (try simp only [Act.put, List.setIfInBounds_toArray, List.set_cons_succ, List.set_cons_zero, List.getElem_toArray, List.getElem_cons_succ, List.getElem_cons_zero])
          refine mix4_take (v := (.pointer (some ⟨b4, off4 + k * 2, none⟩))) rfl rfl rfl (fun _ _ _ h => h) trivial (Below.refl D.heap.size D) (fun Y _ hY => by
            (try simp only [Act.put]); go_simp) ?_
          refine mix4_take (v := .agg #[.int .i64 ro, .slice Bx sg.length dx]) rfl rfl rfl (fun _ _ _ h => h) trivial (Below.refl D.heap.size D) (fun Y _ hY => by
            have z0 := (hY.cell (World.block_lt g0)).trans g0
            have z1 := (hY.cell (World.block_lt g1)).trans g1
            clear hY dA dB e0 e1 g0 g1
            (try simp only [Act.put]); go_simp) ?_
          (try simp only [Act.put, List.setIfInBounds_toArray, List.set_cons_succ, List.set_cons_zero, List.getElem_toArray, List.getElem_cons_succ, List.getElem_cons_zero])
          refine mix4_op rfl rfl (fun K hK => ?_)
          have HCC := Lib.hid (HSS.out)
          go_wp2_with fail
          refine HCC.out.mono ?_; clear HCC
          rintro e y14 ⟨rfl, hl14⟩
          have HB14 := Lib.hid (Below.trans (Below.refl D.heap.size D) (hl14.mono (Below.size (Below.refl D.heap.size D))))
          refine hK _ _ ⟨⟨fun _ => trivial, HB14.out⟩, ?_⟩
          clear hK K hl14
          refine mix4_take (v := .bool false) rfl rfl rfl (fun _ _ _ h => h) trivial HB14.out (fun Y _ hY => by
            (try simp only [Act.put]); go_simp) ?_
          (try simp only [Act.put, List.setIfInBounds_toArray, List.set_cons_succ, List.set_cons_zero, List.getElem_toArray, List.getElem_cons_succ, List.getElem_cons_zero])
          refine mix4_nil ?_
          have HBN := Lib.hid (HB11.out.trans (HB14.out.mono HB11.out.size))
          go_wp2_with fail
          go_roundw
          case rel => exact ⟨k + 1, by omega, by go_num, HBN⟩
          case measure => simp [intOf]; omega
        · obtain rfl : k = l.length := by omega
          go_wp2_with fail
          go_roundw
          case rel => exact ⟨i + 1, by omega, by go_num, HBQ⟩
          case measure => simp [intOf]; omega
    · obtain rfl : i = L.length := by omega
      go_wp2_with fail
      go_ret
      exact ⟨rfl, HB.out⟩
end Go.Proofs.YtpjmdilpldaapaaDoor
