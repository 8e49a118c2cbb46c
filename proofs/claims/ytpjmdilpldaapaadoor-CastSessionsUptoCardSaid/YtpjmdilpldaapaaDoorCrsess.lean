/- The reference's Sessions. -/
import Derived.Test.YtpjmdilpldaapaaDoorCones
import Derived.Test.YtpjmdilpldaapaaDoorClst
import Derived.Test.YtpjmdilpldaapaaDoorCrcount
namespace Go.Proofs.YtpjmdilpldaapaaDoor
open Go.RowKit Go.Sort

/-- what lists answers, in memory with the agents -/
theorem lst_repSL {w' : World} {B : Nat} {its : List Se} {n f : Nat} {v : Value} {ivs : List Iv} (hrow : SRow 58 2 w' B v ivs) (hi : ivs.map (·.1) = (lstN its sz0 n f).map (·.flatMap seCells))
    (ha : ∀ x ∈ its, RepN w' (fun b => b < w'.heap.size) x.1.2 x.2.1 x.2.2) : ∃ A c, v = .slice A (lstN (its.map (·.1)) (0, []) n f).length c ∧ RepSL w' (fun b => b < w'.heap.size) (lstN (its.map (·.1)) (0, []) n f) A c := by
  obtain ⟨A, c, hv, hrep⟩ := repV_own hrow.own
  have hm := lstN_map (Prod.fst : Se → Ss) its sz0 n f
  have hl : ivs.length = (lstN its sz0 n f).length := by have := congrArg List.length hi; simpa using this
  have hl2 : (lstN (its.map (·.1)) (0, []) n f).length = ivs.length := by
    have := congrArg List.length hm
    rw [List.length_map] at this
    rw [hl]
    exact this.symm
  refine ⟨A, c, by rw [hl2]; exact hv, lstN its sz0 n f, ivs, hi, hm, fun x hx => RepV.mono (fun b h => h.2.1) (fun _ _ => rfl) (hrow.reps x hx), fun l hl x hx => ha x (lst_mem hl x hx), ?_⟩
  rw [hl2]
  exact hrep _ (fun b _ h _ => h)
set_option linter.unusedSimpArgs false in
set_option linter.unusedVariables false in
set_option maxHeartbeats 4000000 in
set_option maxRecDepth 100000 in
theorem rsess_any (ags bad : List ByteArray) (Aa Ab : Option Addr) (ca cb : Nat) (roles n : Int) (w : World) (hc : CastW w ags bad Aa ca Ab cb) :
    Calls Tryd.prog 14 #[castV ags bad Aa ca Ab cb, .int .i64 roles, .int .i64 n] w (SessOf w (sessEr ags bad roles n) (sessLs ags bad roles n)) := by
  obtain ⟨W0, hW0⟩ : ∃ W0, W0 = w.alloc (.cells #[.slice Aa ags.length ca, .slice Ab bad.length cb] 24) := ⟨_, rfl⟩
  have hl0 : Below w.heap.size w W0 := by rw [hW0]; exact below1 (Nat.le_refl _) _
  have hx0 : W0.heap[w.heap.size]? = some (boxC ags bad Aa ca Ab cb) := by rw [hW0]; exact heap_alloc_new _ _
  have hs0 : w.heap.size < W0.heap.size := by rw [hW0]; simp
  have HC0 := Lib.hid (hc.below hl0)
  obtain ⟨b0, b1, -⟩ := boxC_cells hx0
  have HV := Lib.hid (rcvalid_any ags bad Aa Ab ca cb W0 HC0.out)
  have HL0 := Lib.hid hl0; have HX0 := Lib.hid hx0; have HS0 := Lib.hid hs0; have HW0 := Lib.hid hW0
  clear hl0 hx0 hs0 hW0 hc
  have HG : Hid (castE ags bad = 0 → Good ags bad) := Lib.hid fun h => good_of h
  obtain ⟨L, hL⟩ : ∃ L, L = sessLs ags bad roles n := ⟨_, rfl⟩
  obtain ⟨R, hR⟩ : ∃ R, R = sessEr ags bad roles n := ⟨_, rfl⟩
  rw [← hL, ← hR]
  unfold sessLs at hL
  unfold sessEr at hR
  unfold castV at HV ⊢
  obtain ⟨E, hE⟩ : ∃ E, E = castE ags bad := ⟨_, rfl⟩
  rw [← hE] at HV hL HG hR
  clear hE
  have HL := Lib.hid hL; have HR := Lib.hid hR
  clear hL hR
  go_enter Tryd.func14, Tryd.ntmps14
  go_wp2_with fail
  rw [← HW0.out]
  refine HV.out.mono ?_
  rintro e w2 ⟨rfl, hl2⟩
  have hbx2 : w2.heap[w.heap.size]? = some (boxC ags bad Aa ca Ab cb) := by rw [hl2.below.block _ HS0.out]; exact HX0.out
  obtain ⟨c0, c1, -⟩ := boxC_cells hbx2
  have HC2 := Lib.hid (HC0.out.below hl2.below)
  have HL2 := Lib.hid (HL0.out.trans (hl2.below.mono (Nat.le_of_lt HS0.out)))
  have HS2 : Hid (w.heap.size < w2.heap.size) := Lib.hid (Nat.lt_of_lt_of_le HS0.out hl2.size)
  have HX2 := Lib.hid hbx2
  clear hl2 hbx2 b0 b1 HV HW0 HX0 HC0 HL0 HS0
  by_cases h0 : E = 0
  case neg =>
    have hb : (E != 0) = true := by rw [bne_iff_ne]; exact h0
    have hLL : L = [] := by rw [HL.out, if_pos h0]
    have hRR : R = E := by rw [HR.out, if_pos h0]
    subst hLL hRR
    clear HL HR HG h0
    go_wp2_with fail
    go_ret2
    exact ⟨none, 0, rfl, RepSL.nil, HL2.out⟩
  subst h0
  have hg := HG.out rfl
  have h6 := hg.six
  clear HG hg
  by_cases hr1 : roles < 2
  case pos =>
    have hLL : L = [] := by rw [HL.out, if_neg (by simp), if_pos (Or.inl hr1)]
    have hRR : R = 7 := by rw [HR.out, if_neg (by simp), if_pos (Or.inl hr1)]
    subst hLL hRR
    clear HL HR
    go_wp2_with fail
    go_ret2
    exact ⟨none, 0, rfl, RepSL.nil, HL2.out⟩
  by_cases hr2 : 4 < roles
  case pos =>
    have hLL : L = [] := by rw [HL.out, if_neg (by simp), if_pos (Or.inr (Or.inl hr2))]
    have hRR : R = 7 := by rw [HR.out, if_neg (by simp), if_pos (Or.inr (Or.inl hr2))]
    subst hLL hRR
    clear HL HR
    go_wp2_with fail
    go_ret2
    exact ⟨none, 0, rfl, RepSL.nil, HL2.out⟩
  by_cases hn1 : n < 1
  case pos =>
    have hLL : L = [] := by rw [HL.out, if_neg (by simp), if_pos (Or.inr (Or.inr (Or.inl hn1)))]
    have hRR : R = 7 := by rw [HR.out, if_neg (by simp), if_pos (Or.inr (Or.inr (Or.inl hn1)))]
    subst hLL hRR
    clear HL HR
    go_wp2_with fail
    go_ret2
    exact ⟨none, 0, rfl, RepSL.nil, HL2.out⟩
  by_cases hn2 : 4 < n
  case pos =>
    have hLL : L = [] := by rw [HL.out, if_neg (by simp), if_pos (Or.inr (Or.inr (Or.inr hn2)))]
    have hRR : R = 7 := by rw [HR.out, if_neg (by simp), if_pos (Or.inr (Or.inr (Or.inr hn2)))]
    subst hLL hRR
    clear HL HR
    go_wp2_with fail
    go_ret2
    exact ⟨none, 0, rfl, RepSL.nil, HL2.out⟩
  obtain ⟨ro, hro⟩ : ∃ ro : Nat, roles = (ro : Int) := ⟨roles.toNat, by omega⟩
  obtain ⟨nn, hnn⟩ : ∃ nn : Nat, n = (nn : Int) := ⟨n.toNat, by omega⟩
  subst hro hnn
  obtain ⟨S, hS⟩ : ∃ S, S = allS ags bad ro ro := ⟨_, rfl⟩
  have HLL : Hid (L = sessL S nn) := by
    show _ = _; rw [HL.out, if_neg (by simp), if_neg (by omega), Int.toNat_natCast, Int.toNat_natCast, hS]
  have HRR : Hid (R = sessE S.length nn) := by
    show _ = _; rw [HR.out, if_neg (by simp), if_neg (by omega), Int.toNat_natCast, Int.toNat_natCast, hS]
  clear HL HR
  have hro4 : ro ≤ 4 := by omega
  have hnn4 : nn ≤ 4 := by omega
  have hone := rones_any ags bad Aa Ab ca cb h6 ro hro4 w2 HC2.out
  unfold castV at hone
  rw [← hS] at hone
  have HM : Hid (S.length ≤ 5184) := Lib.hid (by
    have h2 := allS_length ags bad ro ro
    have h3 : ro * (tups ags ro).length ≤ 4 * 1296 := Nat.mul_le_mul hro4 (tups_len4 h6 (n := ro) hro4)
    rw [hS]; omega)
  have HONE := Lib.hid hone
  clear hone hS
  go_wp2_with fail
  refine HONE.out.mono ?_
  rintro e w3 ⟨v3, its, rfl, hrow, hits, hb3⟩
  obtain ⟨A3, c3, rfl⟩ := hrow.form
  have hlen : its.length = S.length := by have := congrArg List.length hits; rwa [List.length_map] at this
  have hil : its.length ≤ 5184 := by rw [hlen]; exact HM.out
  have HROW := Lib.hid hrow; have HITS := Lib.hid hits; have HB3 := Lib.hid (HL2.out.trans (hb3.mono HL2.out.size)); have HLEN := Lib.hid hlen
  have HCT := Lib.hid (rcount_any nn hnn4 its.length w3 (by omega))
  have HLG : Hid (2000 < cntR nn its.length ↔ 2000 < cnt nn its.length) := Lib.hid (cntR_large nn its.length)
  obtain ⟨K, hK⟩ : ∃ K, K = cntR nn its.length := ⟨_, rfl⟩
  rw [← hK] at HCT HLG
  have hk0 : (0 : Int) ≤ (K : Int) := Int.natCast_nonneg _
  clear hrow hits hb3 hlen HONE hK c0 c1
  go_wp2_with fail
  refine HCT.out.mono ?_
  rintro e w4 ⟨rfl, hw4⟩
  subst hw4
  clear HCT
  by_cases hbig : 2000 < K
  case pos =>
    have hd : decide ((2000 : Int) < (K : Int)) = true := decide_eq_true (by omega)
    have hcn := HLG.out.1 hbig
    rw [HLEN.out] at hcn
    have hLL : L = [] := by rw [HLL.out, sessL_lst, if_pos hcn]
    have hRR : R = 3 := by rw [HRR.out, sessE, if_pos hcn]
    subst hLL hRR
    clear HLL HRR HLG hcn
    go_wp2_with fail
    go_ret2
    exact ⟨none, 0, rfl, RepSL.nil, HB3.out⟩
  have hd : decide ((2000 : Int) < (K : Int)) = false := decide_eq_false (by omega)
  have hcn : ¬ 2000 < cnt nn its.length := fun h => hbig (HLG.out.2 h)
  have hcn2 := hcn
  rw [HLEN.out] at hcn2
  have hLL : L = lstN S (0, []) nn 0 := by rw [HLL.out, sessL_lst, if_neg hcn2]
  have hRR : R = 0 := by rw [HRR.out, sessE, if_neg hcn2]
  obtain ⟨A', c', hv', hrepr⟩ := repV_own HROW.out.own
  injection hv' with h1 _ h2
  subst h1 h2
  have hls := rlists_ses its A3 c3 (by omega) nn 0 w4 hnn4 (Nat.zero_le _) (by rw [Nat.sub_zero]; omega) (hrepr _ (fun b _ h _ => h))
  have HLS := Lib.hid hls
  subst hRR
  have HLE := Lib.hid hLL
  clear hLL HLL HRR HLG hcn hcn2 hls hrepr
  go_wp2_with fail
  refine HLS.out.mono ?_
  rintro e w5 ⟨v5, ivs, rfl, hrow5, hi5, hb5⟩
  obtain ⟨A5, c5, rfl, hSL⟩ := lst_repSL hrow5 hi5 (fun x hx => (HROW.out.reps x hx).mono (fun b h => by have := hb5.size; omega) (fun p hp => hb5.cell hp.2.1))
  rw [HITS.out, ← HLE.out] at hSL
  have HB5 := Lib.hid (HB3.out.trans (hb5.mono HB3.out.size))
  have HSL := Lib.hid hSL
  have HLN : Hid ((lstN (its.map (·.1)) (0, []) nn 0).length = L.length) := Lib.hid (by rw [HITS.out, HLE.out])
  rw [HLN.out]
  clear hrow5 hi5 hb5 hSL
  go_wp2_with fail
  go_ret2
  exact ⟨A5, c5, rfl, HSL.out, HB5.out⟩
end Go.Proofs.YtpjmdilpldaapaaDoor
