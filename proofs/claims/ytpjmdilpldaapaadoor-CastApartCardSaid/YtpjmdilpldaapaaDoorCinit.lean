/- cast.Initial, Keys and Own. -/
import Derived.Test.YtpjmdilpldaapaaDoorCkeys
namespace Go.Proofs.YtpjmdilpldaapaaDoor
open Go.RowKit Go.Sort

/-- terms in a row of the call's own, and an error -/
def TermsE (w : World) (er : Int) (l : List Tm) (e : Ending) (w' : World) : Prop :=
  ∃ v its, e = .returned (.tuple #[v, .int .i64 er]) ∧ RowT w' w.heap.size (fun b => w.heap.size ≤ b) v its ∧ its.map (·.1) = l ∧ Below w.heap.size w w'
def initE (ags bad : List ByteArray) : List Tm := if castE ags bad = 0 then initC ags bad else []
theorem keys_len {ags bad sm : List ByteArray} (h : Good ags bad) : (keysK ags sm ags).length ≤ 42 := by
  have h1 := keysK_length ags sm ags
  have h2 := h.six
  have h3 : ags.length * (1 + ags.length) ≤ 6 * (1 + 6) := Nat.mul_le_mul h2 (by omega)
  omega
theorem its_small {its : List It} {l : List Tm} (h : its.map (·.1) = l) (hl : ∀ t ∈ l, t.size ≤ 3) : ∀ x ∈ its, x.1.size ≤ 1000 := fun x hx => by
  have := hl x.1 (by rw [← h]; exact List.mem_map_of_mem hx)
  omega

set_option maxHeartbeats 1000000 in
set_option maxRecDepth 100000 in
theorem cinit_any (ags bad : List ByteArray) (Aa Ab : Option Addr) (ca cb : Nat) (w : World) (hc : CastW w ags bad Aa ca Ab cb) :
    Calls Tryd.prog 27 #[castV ags bad Aa ca Ab cb] w (TermsE w (castE ags bad) (initE ags bad)) := by
  have mixed : Tryd.prog.follows .mixedOrders = true := by kernel_rfl
  obtain ⟨W0, hW0⟩ : ∃ W0, W0 = w.alloc (.cells #[.slice Aa ags.length ca, .slice Ab bad.length cb] 24) := ⟨_, rfl⟩
  have hl0 : Below w.heap.size w W0 := by rw [hW0]; exact below1 (Nat.le_refl _) _
  have hx0 : W0.heap[w.heap.size]? = some (boxC ags bad Aa ca Ab cb) := by rw [hW0]; exact heap_alloc_new _ _
  have hs0 : w.heap.size < W0.heap.size := by rw [hW0]; simp
  have HC0 := Lib.hid (hc.below hl0)
  obtain ⟨b0, b1, -⟩ := boxC_cells hx0
  have HV := Lib.hid (cvalid_any ags bad Aa Ab ca cb W0 HC0.out)
  have HL0 := Lib.hid hl0; have HX0 := Lib.hid hx0; have HS0 := Lib.hid hs0; have HW0 := Lib.hid hW0
  clear hl0 hx0 hs0 hW0 hc
  have HG : Hid (castE ags bad = 0 → Good ags bad) := Lib.hid fun h => good_of h
  obtain ⟨L, hL⟩ : ∃ L, L = initE ags bad := ⟨_, rfl⟩
  rw [← hL]
  unfold initE at hL
  unfold castV at HV ⊢
  obtain ⟨E, hE⟩ : ∃ E, E = castE ags bad := ⟨_, rfl⟩
  rw [← hE] at HV hL HG ⊢
  clear hE
  have HL := Lib.hid hL; clear hL
  go_enter Tryd.func27, Tryd.ntmps27
  go_wp2_with fail
  rw [← HW0.out]
  refine HV.out.mono ?_
  rintro e w2 ⟨rfl, hl2⟩
  have hbx2 : w2.heap[w.heap.size]? = some (boxC ags bad Aa ca Ab cb) := by rw [hl2.below.block _ HS0.out]; exact HX0.out
  obtain ⟨c0, c1, -⟩ := boxC_cells hbx2
  have HC2 := Lib.hid (HC0.out.below hl2.below)
  have HL2 := Lib.hid (HL0.out.trans (hl2.below.mono (Nat.le_of_lt HS0.out)))
  have HS2 : Hid (w.heap.size < w2.heap.size) := Lib.hid (Nat.lt_of_lt_of_le HS0.out hl2.size)
  clear hl2 hbx2 b0 b1 HV
  by_cases h0 : E = 0
  · subst h0
    have hg := HG.out rfl
    have HLL : Hid (L = initC ags bad) := by show _ = _; rw [HL.out, if_pos rfl]
    have h6 := hg.six
    have HGD := Lib.hid hg
    clear HG HL hg
    go_wp2_with fail
    refine wp_region_mix (fun Y => Below w2.drew.heap.size w2.drew Y) 6 (.held 0 (.held 1 (.held 2 (.held 3 (.op 4 (.op 5 (.op 6 (.op 7 .nil)))))))) mixed (by kernel_rfl) ?_
    have HBD : Hid (Below w2.heap.size w2 w2.drew) := Lib.hid ((Below.refl _ _).drew)
    have HSD : Hid (w2.drew.heap.size = w2.heap.size) := Lib.hid rfl
    have hd0 : w2.drew.cell? ⟨w.heap.size, 0, none⟩ = some (.slice Aa ags.length ca) := c0
    have hd1 : w2.drew.cell? ⟨w.heap.size, 1, none⟩ = some (.slice Ab bad.length cb) := c1
    clear c0 c1
    generalize w2.drew = D at *
    refine mix_take (v := .agg #[.slice Aa ags.length ca, .slice Ab bad.length cb]) rfl rfl (fun _ _ _ h => h) (Below.refl _ _) (fun Y hY => by
      have z0 := (hY.cell (World.block_lt hd0)).trans hd0
      have z1 := (hY.cell (World.block_lt hd1)).trans hd1
      clear hd0 hd1 hY
      (try simp only [Act.put]); go_simp) ?_
    refine mix_take (v := .agg #[.slice Aa ags.length ca, .slice Ab bad.length cb]) rfl rfl (fun _ _ _ h => h) (Below.refl _ _) (fun Y hY => by
      have z0 := (hY.cell (World.block_lt hd0)).trans hd0
      have z1 := (hY.cell (World.block_lt hd1)).trans hd1
      clear hd0 hd1 hY
      (try simp only [Act.put]); go_simp) ?_
    refine mix_take (v := .pointer (some ⟨w.heap.size, 1, none⟩)) rfl rfl (fun _ _ _ h => h) (Below.refl _ _) (fun Y hY => by (try simp only [Act.put]); go_simp) ?_
    refine mix_take (v := .slice Ab bad.length cb) rfl rfl (fun _ _ _ h => h) (Below.refl _ _) (fun Y hY => by
      have z1 := (hY.cell (World.block_lt hd1)).trans hd1
      clear hd0 hd1 hY
      (try simp only [Act.put]); go_simp) ?_
    (try simp only [Act.put, List.setIfInBounds_toArray])
    refine mix_op rfl rfl (fun K hK => ?_)
    have hcD := HC2.out.below HBD.out
    have HBEL := Lib.hid (belong_any ags bad bad Aa Ab Ab ca cb cb D hcD hcD.b h6)
    clear hcD
    unfold castV at HBEL
    go_wp2_with fail
    refine HBEL.out.mono ?_; clear HBEL
    rintro e w3 ⟨v3, its3, rfl, hrow3, hits3, hb3⟩
    refine hK _ _ ⟨fun _ => hb3, ?_⟩
    clear hK K
    have hlen3 : its3.length ≤ 100 := by
      have h1 := congrArg List.length hits3
      have h2 := keys_len (sm := bad) HGD.out
      rw [List.length_map] at h1; omega
    have HWI := Lib.hid (cwith_any ags bad Aa Ab ca cb D.heap.size v3 its3 w3 hb3.size ((HC2.out.a.go HBD.out (Nat.le_of_eq HSD.out.symm)).below hb3) h6 hrow3 hlen3 (its_small hits3 (keysK_small _ _ _)))
    rw [hits3] at HWI
    have HB3 := Lib.hid hb3
    clear hrow3 hits3 hb3 hlen3
    unfold castV at HWI
    (try simp only [Act.put, List.setIfInBounds_toArray])
    refine mix_op rfl rfl (fun K hK => ?_)
    go_wp2_with fail
    refine HWI.out.mono ?_; clear HWI
    rintro e w4 ⟨v4, its4, rfl, hrow4, hits4, hb4⟩
    refine hK _ _ ⟨fun _ => HB3.out.trans hb4, ?_⟩
    clear hK K
    have HR4 := Lib.hid (hrow4.loosen (base' := w.heap.size) (F' := fun b => w.heap.size ≤ b) (by have := HSD.out; have := HS2.out; omega) (fun b h => by have := HSD.out; have := HS2.out; omega))
    have HI4 : Hid (its4.map (·.1) = initC ags bad) := Lib.hid hits4
    have HB4 := Lib.hid (HL2.out.trans ((HBD.out.mono (Nat.le_of_lt HS2.out)).trans ((HB3.out.trans hb4).mono (by have := HSD.out; have := HS2.out; omega))))
    clear hrow4 hits4 hb4 HB3
    (try simp only [Act.put, List.setIfInBounds_toArray])
    refine mix_op rfl rfl (fun K hK => ?_)
    go_wp2_with fail
    refine ⟨fun h => absurd h (by decide), ?_⟩
    refine mix_op rfl rfl (fun K hK => ?_)
    go_wp2_with fail
    refine ⟨fun h => absurd h (by decide), ?_⟩
    refine mix_nil ?_
    go_wp2_with fail
    go_ret2
    exact ⟨v4, its4, rfl, HR4.out, by rw [HI4.out, HLL.out], HB4.out⟩
  · have hb : (E != 0) = true := by rw [bne_iff_ne]; exact h0
    have HLL : L = [] := by rw [HL.out, if_neg h0]
    subst HLL
    clear HL HG h0
    go_wp2_with fail
    go_ret2
    exact ⟨_, [], rfl, RowT.nil _ _ _, rfl, HL2.out⟩

def keysE (ags bad : List ByteArray) : List Tm := if castE ags bad = 0 then keysC ags else []
set_option maxHeartbeats 1000000 in
set_option maxRecDepth 100000 in
theorem ckeys_any (ags bad : List ByteArray) (Aa Ab : Option Addr) (ca cb : Nat) (w : World) (hc : CastW w ags bad Aa ca Ab cb) :
    Calls Tryd.prog 30 #[castV ags bad Aa ca Ab cb] w (RowOf w w.heap.size (keysE ags bad)) := by
  obtain ⟨W0, hW0⟩ : ∃ W0, W0 = w.alloc (.cells #[.slice Aa ags.length ca, .slice Ab bad.length cb] 24) := ⟨_, rfl⟩
  have hl0 : Below w.heap.size w W0 := by rw [hW0]; exact below1 (Nat.le_refl _) _
  have hx0 : W0.heap[w.heap.size]? = some (boxC ags bad Aa ca Ab cb) := by rw [hW0]; exact heap_alloc_new _ _
  have hs0 : w.heap.size < W0.heap.size := by rw [hW0]; simp
  have HC0 := Lib.hid (hc.below hl0)
  obtain ⟨b0, b1, -⟩ := boxC_cells hx0
  have HV := Lib.hid (cvalid_any ags bad Aa Ab ca cb W0 HC0.out)
  have HL0 := Lib.hid hl0; have HX0 := Lib.hid hx0; have HS0 := Lib.hid hs0; have HW0 := Lib.hid hW0
  clear hl0 hx0 hs0 hW0 hc
  have HG : Hid (castE ags bad = 0 → Good ags bad) := Lib.hid fun h => good_of h
  obtain ⟨L, hL⟩ : ∃ L, L = keysE ags bad := ⟨_, rfl⟩
  rw [← hL]
  unfold keysE at hL
  unfold castV at HV ⊢
  obtain ⟨E, hE⟩ : ∃ E, E = castE ags bad := ⟨_, rfl⟩
  rw [← hE] at HV hL HG
  clear hE
  have HL := Lib.hid hL; clear hL
  go_enter Tryd.func30, Tryd.ntmps30
  go_wp2_with fail
  rw [← HW0.out]
  refine HV.out.mono ?_
  rintro e w2 ⟨rfl, hl2⟩
  have hbx2 : w2.heap[w.heap.size]? = some (boxC ags bad Aa ca Ab cb) := by rw [hl2.below.block _ HS0.out]; exact HX0.out
  obtain ⟨c0, c1, -⟩ := boxC_cells hbx2
  have HC2 := Lib.hid (HC0.out.below hl2.below)
  have HL2 := Lib.hid (HL0.out.trans (hl2.below.mono (Nat.le_of_lt HS0.out)))
  have HS2 : Hid (w.heap.size < w2.heap.size) := Lib.hid (Nat.lt_of_lt_of_le HS0.out hl2.size)
  clear hl2 hbx2 b0 b1 HV
  by_cases h0 : E = 0
  · subst h0
    have hg := HG.out rfl
    have HLL : Hid (L = keysC ags) := by show _ = _; rw [HL.out, if_pos rfl]
    have h6 := hg.six
    have HGD := Lib.hid hg
    clear HG HL hg
    have HBEL := Lib.hid (belong_any ags bad ags Aa Ab Aa ca cb ca w2 HC2.out HC2.out.a h6)
    unfold castV at HBEL
    go_wp2_with fail
    refine HBEL.out.mono ?_; clear HBEL
    rintro e w3 ⟨v3, its3, rfl, hrow3, hits3, hb3⟩
    have hlen3 : its3.length ≤ 10000000 := by
      have h1 := congrArg List.length hits3
      have h2 := keys_len (sm := ags) HGD.out
      rw [List.length_map] at h1; omega
    have HSE := Lib.hid (cset_any w3 w2.heap.size (fun b => w2.heap.size ≤ b) v3 its3 hlen3 hrow3 (fun x hx => by have := its_small hits3 (keysK_small _ _ _) x hx; omega))
    rw [hits3] at HSE
    have HO : Hid (∀ k, v3.ownBlock = some k → w2.heap.size ≤ k) := Lib.hid fun k hk => (hrow3.lt k hk).1
    have HB3 := Lib.hid hb3
    clear hrow3 hits3 hb3 hlen3
    go_wp2_with fail
    refine HSE.out.mono ?_; clear HSE
    rintro e w4 ⟨v4, its4, rfl, hrow4, hits4, hg4, ho4⟩
    have HR4 := Lib.hid (hrow4.loosen (base' := w.heap.size) (F' := fun b => w.heap.size ≤ b) (by have := HS2.out; omega) (fun b h => by have := HS2.out; omega))
    have HI4 : Hid (its4.map (·.1) = keysC ags) := Lib.hid hits4
    have HB4 := Lib.hid (HL2.out.trans ((below_of_grown HB3.out HB3.out.size hg4 HO.out).mono (Nat.le_of_lt HS2.out)))
    clear hrow4 hits4 hg4 ho4 HB3
    go_wp2_with fail
    go_ret
    exact ⟨v4, its4, rfl, HR4.out, by rw [HI4.out, HLL.out], HB4.out⟩
  · have hb : (E != 0) = true := by rw [bne_iff_ne]; exact h0
    have HLL : L = [] := by rw [HL.out, if_neg h0]
    subst HLL
    clear HL HG h0
    go_wp2_with fail
    go_ret
    exact ⟨_, [], rfl, RowT.nil _ _ _, rfl, HL2.out⟩

def ownEr (ags bad : List ByteArray) (x : ByteArray) : Int := if castE ags bad = 0 then (if hasS ags x = true then 0 else 4) else castE ags bad
def ownL (ags bad : List ByteArray) (x : ByteArray) : List Tm := if castE ags bad = 0 ∧ hasS ags x = true then initC ags [x] else []
theorem one_str {w Z : World} {x : ByteArray} (hx : x.size ≤ maxLen) (hZ : Z = w.alloc (.cells #[.string x] 9)) : RepN Z (fun b => b < Z.heap.size) [x] (some ⟨w.heap.size, 0, none⟩) 1 := by
  have hc : Z.cell? ⟨w.heap.size, 0, none⟩ = some (.string x) := by rw [hZ]; unfold World.cell?; rw [heap_alloc_new]; rfl
  refine ⟨Nat.le_refl _, by decide, fun y hy => by rw [List.mem_singleton.1 hy]; exact hx, .inr ⟨w.heap.size, 0, rfl, World.block_lt hc, fun j hj => ?_⟩⟩
  have : j = 0 := by simpa using hj
  subst this
  exact hc
set_option maxHeartbeats 1000000 in
set_option maxRecDepth 100000 in
theorem cown_any (ags bad : List ByteArray) (Aa Ab : Option Addr) (ca cb : Nat) (x : ByteArray) (w : World) (hc : CastW w ags bad Aa ca Ab cb) (hx : x.size ≤ maxLen) :
    Calls Tryd.prog 32 #[castV ags bad Aa ca Ab cb, .string x] w (TermsE w (ownEr ags bad x) (ownL ags bad x)) := by
  have mixed : Tryd.prog.follows .mixedOrders = true := by kernel_rfl
  obtain ⟨W0, hW0⟩ : ∃ W0, W0 = w.alloc (.cells #[.slice Aa ags.length ca, .slice Ab bad.length cb] 24) := ⟨_, rfl⟩
  have hl0 : Below w.heap.size w W0 := by rw [hW0]; exact below1 (Nat.le_refl _) _
  have hx0 : W0.heap[w.heap.size]? = some (boxC ags bad Aa ca Ab cb) := by rw [hW0]; exact heap_alloc_new _ _
  have hs0 : w.heap.size < W0.heap.size := by rw [hW0]; simp
  have HC0 := Lib.hid (hc.below hl0)
  obtain ⟨b0, b1, -⟩ := boxC_cells hx0
  have HV := Lib.hid (cvalid_any ags bad Aa Ab ca cb W0 HC0.out)
  have HL0 := Lib.hid hl0; have HX0 := Lib.hid hx0; have HS0 := Lib.hid hs0; have HW0 := Lib.hid hW0
  clear hl0 hx0 hs0 hW0 hc
  have HG : Hid (castE ags bad = 0 → Good ags bad) := Lib.hid fun h => good_of h
  obtain ⟨L, hL⟩ : ∃ L, L = ownL ags bad x := ⟨_, rfl⟩
  obtain ⟨R, hR⟩ : ∃ R, R = ownEr ags bad x := ⟨_, rfl⟩
  rw [← hL, ← hR]
  unfold ownL at hL
  unfold ownEr at hR
  unfold castV at HV ⊢
  obtain ⟨E, hE⟩ : ∃ E, E = castE ags bad := ⟨_, rfl⟩
  rw [← hE] at HV hL HG hR
  clear hE
  have HL := Lib.hid hL; clear hL
  have HR := Lib.hid hR; clear hR
  have HX := Lib.hid hx; clear hx
  go_enter Tryd.func32, Tryd.ntmps32
  go_wp2_with fail
  rw [← HW0.out]
  refine HV.out.mono ?_
  rintro e w2 ⟨rfl, hl2⟩
  have hbx2 : w2.heap[w.heap.size]? = some (boxC ags bad Aa ca Ab cb) := by rw [hl2.below.block _ HS0.out]; exact HX0.out
  obtain ⟨c0, c1, -⟩ := boxC_cells hbx2
  have HC2 := Lib.hid (HC0.out.below hl2.below)
  have HL2 := Lib.hid (HL0.out.trans (hl2.below.mono (Nat.le_of_lt HS0.out)))
  have HS2 : Hid (w.heap.size < w2.heap.size) := Lib.hid (Nat.lt_of_lt_of_le HS0.out hl2.size)
  clear hl2 hbx2 b0 b1 HV
  by_cases h0 : E = 0
  · subst h0
    have hg := HG.out rfl
    have h6 := hg.six
    have HGD := Lib.hid hg
    clear HG hg
    have HCT := Lib.hid (containsN ags Aa ca x w2 HC2.out.a)
    cases hq : hasS ags x with
    | false =>
      have HLL : L = [] := by rw [HL.out, if_neg (by rw [hq]; simp)]
      have HRR : R = 4 := by rw [HR.out, if_pos rfl, if_neg (by rw [hq]; simp)]
      subst HLL HRR
      rw [hq] at HCT
      clear HL HR hq
      go_wp2_with fail
      refine HCT.out.mono ?_
      rintro e w3 ⟨rfl, rfl⟩
      go_wp2_with fail
      go_ret2
      exact ⟨_, [], rfl, RowT.nil _ _ _, rfl, HL2.out⟩
    | true =>
    have HLL : Hid (L = initC ags [x]) := by show _ = _; rw [HL.out, if_pos ⟨rfl, hq⟩]
    have HRR : R = 0 := by rw [HR.out, if_pos rfl, if_pos hq]
    subst HRR
    rw [hq] at HCT
    clear HL HR hq
    go_wp2_with fail
    refine HCT.out.mono ?_; clear HCT
    rintro e w2' ⟨rfl, hw⟩
    subst hw
    go_wp2_with fail
    refine wp_region_mix (fun Y => Below w2'.drew.heap.size w2'.drew Y) 6 (.held 0 (.held 1 (.held 2 (.op 3 (.op 4 (.op 5 (.op 6 (.op 7 .nil)))))))) mixed (by kernel_rfl) ?_
    have HBD : Hid (Below w2'.heap.size w2' w2'.drew) := Lib.hid ((Below.refl _ _).drew)
    have HSD : Hid (w2'.drew.heap.size = w2'.heap.size) := Lib.hid rfl
    have hd0 : w2'.drew.cell? ⟨w.heap.size, 0, none⟩ = some (.slice Aa ags.length ca) := c0
    have hd1 : w2'.drew.cell? ⟨w.heap.size, 1, none⟩ = some (.slice Ab bad.length cb) := c1
    clear c0 c1
    generalize w2'.drew = D at *
    refine mix_take (v := .agg #[.slice Aa ags.length ca, .slice Ab bad.length cb]) rfl rfl (fun _ _ _ h => h) (Below.refl _ _) (fun Y hY => by
      have z0 := (hY.cell (World.block_lt hd0)).trans hd0
      have z1 := (hY.cell (World.block_lt hd1)).trans hd1
      clear hd0 hd1 hY
      (try simp only [Act.put]); go_simp) ?_
    refine mix_take (v := .agg #[.slice Aa ags.length ca, .slice Ab bad.length cb]) rfl rfl (fun _ _ _ h => h) (Below.refl _ _) (fun Y hY => by
      have z0 := (hY.cell (World.block_lt hd0)).trans hd0
      have z1 := (hY.cell (World.block_lt hd1)).trans hd1
      clear hd0 hd1 hY
      (try simp only [Act.put]); go_simp) ?_
    refine mix_take (v := .string x) rfl rfl (fun _ _ _ h => h) (Below.refl _ _) (fun Y hY => by (try simp only [Act.put]); go_simp) ?_
    (try simp only [Act.put, List.setIfInBounds_toArray])
    refine mix_op rfl rfl (fun K hK => ?_)
    go_wp2_with fail
    refine ⟨fun _ => below1 (Nat.le_refl _) _, ?_⟩
    obtain ⟨Z, hZ⟩ : ∃ Z, Z = D.alloc (.cells #[.string x] 9) := ⟨_, rfl⟩
    rw [← hZ]
    have hbZ : Below D.heap.size D Z := by rw [hZ]; exact below1 (Nat.le_refl _) _
    have hxs := one_str HX.out hZ
    have HBZ := Lib.hid hbZ
    clear hZ
    refine mix_op rfl rfl (fun K hK => ?_)
    have hcD := (HC2.out.below HBD.out).below hbZ
    have HBEL := Lib.hid (belong_any ags bad [x] Aa Ab _ ca cb 1 Z hcD hxs h6)
    clear hcD hxs hbZ
    unfold castV at HBEL
    go_wp2_with fail
    refine HBEL.out.mono ?_; clear HBEL
    rintro e w3 ⟨v3, its3, rfl, hrow3, hits3, hb3⟩
    refine hK _ _ ⟨fun _ => HBZ.out.trans (hb3.mono HBZ.out.size), ?_⟩
    clear hK K
    have hlen3 : its3.length ≤ 100 := by
      have h1 := congrArg List.length hits3
      have h2 := keys_len (sm := [x]) HGD.out
      rw [List.length_map] at h1; omega
    have HWI := Lib.hid (cwith_any ags bad Aa Ab ca cb Z.heap.size v3 its3 w3 hb3.size (((HC2.out.a.go HBD.out (Nat.le_of_eq HSD.out.symm)).go HBZ.out HBZ.out.size).below hb3) h6 hrow3 hlen3 (its_small hits3 (keysK_small _ _ _)))
    rw [hits3] at HWI
    have HB3 := Lib.hid hb3
    clear hrow3 hits3 hb3 hlen3
    unfold castV at HWI
    (try simp only [Act.put, List.setIfInBounds_toArray])
    refine mix_op rfl rfl (fun K hK => ?_)
    go_wp2_with fail
    refine HWI.out.mono ?_; clear HWI
    rintro e w4 ⟨v4, its4, rfl, hrow4, hits4, hb4⟩
    refine hK _ _ ⟨fun _ => HBZ.out.trans ((HB3.out.trans hb4).mono HBZ.out.size), ?_⟩
    clear hK K
    have HR4 := Lib.hid (hrow4.loosen (base' := w.heap.size) (F' := fun b => w.heap.size ≤ b) (by have := HSD.out; have := HS2.out; have := HBZ.out.size; omega) (fun b h => by have := HSD.out; have := HS2.out; have := HBZ.out.size; omega))
    have HI4 : Hid (its4.map (·.1) = initC ags [x]) := Lib.hid hits4
    have HB4 := Lib.hid (HL2.out.trans ((HBD.out.mono (Nat.le_of_lt HS2.out)).trans ((HBZ.out.trans ((HB3.out.trans hb4).mono HBZ.out.size)).mono (by have := HSD.out; have := HS2.out; omega))))
    clear hrow4 hits4 hb4 HB3
    (try simp only [Act.put, List.setIfInBounds_toArray])
    refine mix_op rfl rfl (fun K hK => ?_)
    go_wp2_with fail
    refine ⟨fun h => absurd h (by decide), ?_⟩
    refine mix_op rfl rfl (fun K hK => ?_)
    go_wp2_with fail
    refine ⟨fun h => absurd h (by decide), ?_⟩
    refine mix_nil ?_
    go_wp2_with fail
    go_ret2
    exact ⟨v4, its4, rfl, HR4.out, by rw [HI4.out, HLL.out], HB4.out⟩
  · have hb : (E != 0) = true := by rw [bne_iff_ne]; exact h0
    have HLL : L = [] := by rw [HL.out, if_neg (fun h => h0 h.1)]
    have HRR : R = E := by rw [HR.out, if_neg h0]
    subst HLL HRR
    clear HL HR HG h0
    go_wp2_with fail
    go_ret2
    exact ⟨_, [], rfl, RowT.nil _ _ _, rfl, HL2.out⟩
end Go.Proofs.YtpjmdilpldaapaaDoor
