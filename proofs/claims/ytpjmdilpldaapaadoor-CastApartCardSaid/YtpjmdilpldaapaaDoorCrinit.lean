/- The reference's Initial, Keys and Own. -/
import Derived.Test.YtpjmdilpldaapaaDoorCinit
import Derived.Test.YtpjmdilpldaapaaDoorCrkeys
import Derived.Test.YtpjmdilpldaapaaDoorCrows
namespace Go.Proofs.YtpjmdilpldaapaaDoor
open Go.RowKit Go.Sort

/-- a row behind a row -/
theorem rowT_addL {w : World} {base base2 : Nat} {v v2 : Value} {its its2 : List It} (hrow : RowT w base (fun b => base ≤ b) v its) (hbase : base ≤ w.heap.size) (hrow2 : RowT w base2 (fun b => base2 ≤ b) v2 its2) (hb2 : base ≤ base2)
    (hown : ∀ k, v.ownBlock = Option.some k → k < base2) (hlen : its.length + its2.length ≤ 1000000) :
    ∃ v' w', (∀ ty, (Builtin.append_ #[33, 33] ty #[v, v2]).run Tryd.prog w = .ok v' w') ∧ RowT w' base (fun b => base ≤ b) v' (its ++ its2) ∧ Below base w w' := by
  obtain ⟨i0, hi0, hz0, hz1, hz2⟩ := info_parts termInfo
  rcases hrow2.own.2 with ⟨rfl, h0⟩ | ⟨g, cap, cur, rfl, hg, -, -⟩
  · have : its2 = [] := List.eq_nil_of_length_eq_zero h0
    subst this
    refine ⟨v, w, fun ty => append_of_nil _ ty i0 Tryd.underlying33 hi0 hrow.own 0, by rw [List.append_nil]; exact hrow, Below.refl _ _⟩
  · obtain ⟨v', w', hr, ho, hgr, -, hat⟩ := run_append_own_at (P := Tryd.prog) (w := w) base 33 0 35 i0 _ 4 56 Tryd.underlying33 hi0 hz0 hz1 hz2 rfl (by omega) v its.length (itCells its) hrow.own
      ⟨g, 0, none⟩ its2.length cap (itCells its2) (itCells_length its2) (fun j u hj => hrow2.own.cells (g := g) rfl j u hj) (itCells_one its2) (by unfold maxLen; omega) (by omega) hbase
    refine ⟨v', w', fun ty => hr, hrow.push (fun x hx => RepP.mono (fun b ⟨h1, h2, h3⟩ => ⟨by omega, h2, fun e => by have := hown b e; omega⟩) (fun _ _ => rfl) _ _ _ (hrow2.reps x hx)) ho hgr hat, ?_⟩
    exact below_of_grown (Below.refl _ _) hbase hgr (fun k hk => (hrow.lt k hk).1)
theorem rowT_all {w : World} {base : Nat} {F : Nat → Prop} {v : Value} {its : List It} (h : RowT w base F v its) : RowT w base (fun b => b < w.heap.size) v its :=
  ⟨h.own, fun x hx => RepP.mono (fun _ ⟨_, h2⟩ => ⟨h2.1, h2⟩) (fun _ _ => rfl) _ _ _ (h.reps x hx)⟩
/-- the reference's Set of a row -/
theorem rset_row {w : World} {base : Nat} {F : Nat → Prop} {v : Value} {its : List It} (h : RowT w base F v its) (hn : its.length ≤ 1000000) (hsz : ∀ x ∈ its, x.1.size ≤ 1000) :
    Calls Tryd.prog 69 #[v] w (ListOf w w.heap.size (Tm.set (its.map (·.1)))) := by
  obtain ⟨A, c, rfl, -⟩ := h.toS (P := fun _ => True) (fun _ _ _ => trivial) (fun _ _ _ => trivial)
  exact set_any its base A its.length c w w.heap.size (Nat.le_refl _) (rowT_all h) hn (fun x hx => by have := hsz x hx; omega)
/-- a list of terms in blocks that are there, and an error -/
def TermsS (w : World) (er : Int) (l : List Tm) (e : Ending) (w' : World) : Prop :=
  ∃ A c, e = .returned (.tuple #[.slice A l.length c, .int .i64 er]) ∧ RepS w' (fun b => b < w'.heap.size) l A c ∧ Below w.heap.size w w'
def ListS (w : World) (l : List Tm) (e : Ending) (w' : World) : Prop :=
  ∃ A c, e = .returned (.slice A l.length c) ∧ RepS w' (fun b => b < w'.heap.size) l A c ∧ Below w.heap.size w w'
theorem TermsE.toS {w : World} {er : Int} {l : List Tm} {e : Ending} {w' : World} (h : TermsE w er l e w') : TermsS w er l e w' := by
  obtain ⟨v, its, rfl, hr, rfl, hb⟩ := h
  obtain ⟨A, c, rfl, hS⟩ := hr.toS (P := fun b => b < w'.heap.size) (fun b _ h => h) (fun b _ h => h)
  exact ⟨A, c, by rw [List.length_map], hS, hb⟩
theorem RowOf.toS {w : World} {base : Nat} {l : List Tm} {e : Ending} {w' : World} (h : RowOf w base l e w') (hb : w.heap.size ≤ base) : ListS w l e w' := by
  obtain ⟨v, its, rfl, hr, rfl, hbl⟩ := h
  obtain ⟨A, c, rfl, hS⟩ := hr.toS (P := fun b => b < w'.heap.size) (fun b _ h => h) (fun b _ h => h)
  exact ⟨A, c, by rw [List.length_map], hS, hbl.mono hb⟩
/-- .. of the reference's lists -/
theorem ListOf.toL {w : World} {B : Nat} {l : List Tm} {e : Ending} {w' : World} (h : ListOf w B l e w') : ListS w l e w' := by
  obtain ⟨A, c, n, its, rfl, rfl, hr, hb, rfl⟩ := h
  obtain ⟨A', c', hv, hS⟩ := hr.toS (P := fun b => b < w'.heap.size) (fun b _ h => h) (fun b _ h => h)
  injection hv with h1 h2 h3
  subst h1 h3
  exact ⟨A, c, rfl, hS, hb⟩

set_option maxHeartbeats 1000000 in
set_option maxRecDepth 100000 in
theorem rinit_any (ags bad : List ByteArray) (Aa Ab : Option Addr) (ca cb : Nat) (w : World) (hc : CastW w ags bad Aa ca Ab cb) :
    Calls Tryd.prog 28 #[castV ags bad Aa ca Ab cb] w (TermsS w (castE ags bad) (initE ags bad)) := by
  have mixed : Tryd.prog.follows .mixedOrders = true := by kernel_rfl
  obtain ⟨W0, hW0⟩ : ∃ W0, W0 = w.alloc (.cells #[.slice Aa ags.length ca, .slice Ab bad.length cb] 24) := ⟨_, rfl⟩
  have hl0 : Below w.heap.size w W0 := by rw [hW0]; exact below1 (Nat.le_refl _) _
  have hx0 : W0.heap[w.heap.size]? = some (boxC ags bad Aa ca Ab cb) := by rw [hW0]; exact heap_alloc_new _ _
  have hs0 : w.heap.size < W0.heap.size := by rw [hW0]; simp
  have HC0 := Lib.hid (hc.below hl0)
  obtain ⟨b0, b1, -⟩ := boxC_cells hx0
  have HV := Lib.hid (rcvalid_any ags bad Aa Ab ca cb W0 HC0.out)
  have HL0 := Lib.hid hl0; have HX0 := Lib.hid hx0; have HS0 := Lib.hid hs0; have HW0 := Lib.hid hW0
  clear hl0 hx0 hs0 hW0 hc
  have HG : Hid (castE ags bad = 0 → Good ags bad) := Lib.hid fun h => good_of h
  obtain ⟨L, hL⟩ : ∃ L, L = initE ags bad := ⟨_, rfl⟩
  rw [← hL]
  unfold initE at hL
  unfold castV at HV ⊢
  obtain ⟨E, hE⟩ : ∃ E, E = castE ags bad := ⟨_, rfl⟩
  rw [← hE] at HV hL HG ⊢
  clear hE
  have HL := Lib.hid hL; clear hL
  go_enter Tryd.func28, Tryd.ntmps28
  go_wp2_with fail
  rw [← HW0.out]
  refine HV.out.mono ?_
  rintro e w2 ⟨rfl, hl2⟩
  have hbx2 : w2.heap[w.heap.size]? = some (boxC ags bad Aa ca Ab cb) := by rw [hl2.below.block _ HS0.out]; exact HX0.out
  obtain ⟨c0, c1, -⟩ := boxC_cells hbx2
  have HC2 := Lib.hid (HC0.out.below hl2.below)
  have HL2 := Lib.hid (HL0.out.trans (hl2.below.mono (Nat.le_of_lt HS0.out)))
  have HS2 : Hid (w.heap.size < w2.heap.size) := Lib.hid (Nat.lt_of_lt_of_le HS0.out hl2.size)
  clear hl2 hbx2 b0 b1 HV
  by_cases h0 : E = 0
  · subst h0
    have hg := HG.out rfl
    have HLL : Hid (L = initC ags bad) := by show _ = _; rw [HL.out, if_pos rfl]
    have h6 := hg.six
    have HGD := Lib.hid hg
    clear HG HL hg
    go_wp2_with fail
    refine wp_region_mix (fun Y => Below w2.drew.heap.size w2.drew Y) 8 (.held 0 (.held 2 (.held 3 (.held 4 (.op 1 (.op 5 (.op 6 (.op 7 (.op 8 (.op 9 .nil)))))))))) mixed (by kernel_rfl) ?_
    have HBD : Hid (Below w2.heap.size w2 w2.drew) := Lib.hid ((Below.refl _ _).drew)
    have HSD : Hid (w2.drew.heap.size = w2.heap.size) := Lib.hid rfl
    have hd0 : w2.drew.cell? ⟨w.heap.size, 0, none⟩ = some (.slice Aa ags.length ca) := c0
    have hd1 : w2.drew.cell? ⟨w.heap.size, 1, none⟩ = some (.slice Ab bad.length cb) := c1
    clear c0 c1
    generalize w2.drew = D at *
    refine mix_take (v := .agg #[.slice Aa ags.length ca, .slice Ab bad.length cb]) rfl rfl (fun _ _ _ h => h) (Below.refl _ _) (fun Y hY => by
      have z0 := (hY.cell (World.block_lt hd0)).trans hd0
      have z1 := (hY.cell (World.block_lt hd1)).trans hd1
      clear hd0 hd1 hY
      (try simp only [Act.put]); go_simp) ?_
    refine mix_take (v := .agg #[.slice Aa ags.length ca, .slice Ab bad.length cb]) rfl rfl (fun _ _ _ h => h) (Below.refl _ _) (fun Y hY => by
      have z0 := (hY.cell (World.block_lt hd0)).trans hd0
      have z1 := (hY.cell (World.block_lt hd1)).trans hd1
      clear hd0 hd1 hY
      (try simp only [Act.put]); go_simp) ?_
    refine mix_take (v := .pointer (some ⟨w.heap.size, 1, none⟩)) rfl rfl (fun _ _ _ h => h) (Below.refl _ _) (fun Y hY => by (try simp only [Act.put]); go_simp) ?_
    refine mix_take (v := .slice Ab bad.length cb) rfl rfl (fun _ _ _ h => h) (Below.refl _ _) (fun Y hY => by
      have z1 := (hY.cell (World.block_lt hd1)).trans hd1
      clear hd0 hd1 hY
      (try simp only [Act.put]); go_simp) ?_
    (try simp only [Act.put, List.setIfInBounds_toArray])
    refine mix_op rfl rfl (fun K hK => ?_)
    have hcD := HC2.out.below HBD.out
    have HPU := Lib.hid (rpubs_any ags bad Aa Ab ca cb D hcD h6)
    have HCD := Lib.hid hcD
    clear hcD
    unfold castV at HPU
    go_wp2_with fail
    refine HPU.out.mono ?_; clear HPU
    rintro e w3 ⟨v3, its3, rfl, hrow3, hits3, hb3⟩
    refine hK _ _ ⟨fun _ => hb3, ?_⟩
    clear hK K
    have hc3 := HCD.out.below hb3
    have HKE := Lib.hid (rkeys_any ags bad bad Aa Ab Ab ca cb cb w3 hc3 hc3.b h6 HGD.out.nodup)
    have HB3 := Lib.hid hb3; have HR3 := Lib.hid hrow3; have HI3 : Hid (its3.map (·.1) = pubsK ags) := Lib.hid hits3
    clear hc3 hb3 hrow3 hits3
    unfold castV at HKE
    (try simp only [Act.put, List.setIfInBounds_toArray])
    refine mix_op rfl rfl (fun K hK => ?_)
    go_wp2_with fail
    refine HKE.out.mono ?_; clear HKE
    rintro e w4 ⟨v4, its4, rfl, hrow4, hits4, hb4⟩
    refine hK _ _ ⟨fun _ => HB3.out.trans (hb4.mono HB3.out.size), ?_⟩
    clear hK K
    have hl3 : its3.length ≤ 6 := by
      have h1 := congrArg List.length HI3.out
      rw [List.length_map, pubsK, List.length_map] at h1; omega
    have hl4 : its4.length ≤ 42 := by
      have h1 := congrArg List.length hits4
      have h2 := keys_len (sm := bad) HGD.out
      rw [List.length_map] at h1; omega
    obtain ⟨v5, w5, hap, hrow5, hb5⟩ := rowT_addL (HR3.out.below hb4) (by have := HB3.out.size; have := hb4.size; omega) hrow4 HB3.out.size (fun k hk => (HR3.out.lt k hk).2) (by omega)
    have hm5 : (its3 ++ its4).map (·.1) = pubsK ags ++ keysK ags bad ags := by rw [List.map_append, HI3.out, hits4]
    have hs5 : ∀ x ∈ its3 ++ its4, x.1.size ≤ 1000 := fun x hx => by
      rcases List.mem_append.1 hx with hx | hx
      · exact its_small HI3.out (pubsK_small _) x hx
      · exact its_small hits4 (keysK_small _ _ _) x hx
    have HSE := Lib.hid (rset_row hrow5 (by rw [List.length_append]; omega) hs5)
    rw [hm5, initC_swap] at HSE
    have HB5 := Lib.hid ((HB3.out.trans (hb4.mono HB3.out.size)).trans hb5)
    clear hrow4 hits4 hb4 hl3 hl4 hrow5 hb5 hm5 hs5 HR3 HI3
    (try simp only [Act.put, List.setIfInBounds_toArray])
    refine mix_op rfl rfl (fun K hK => ?_)
    refine wp_run_append (.tmp 11) (.tmp 15) (by rfl) (by rfl) (by rfl) hap ?_
    refine hK _ _ ⟨fun _ => HB5.out, ?_⟩
    clear hK K hap
    (try simp only [Act.put, List.setIfInBounds_toArray])
    refine mix_op rfl rfl (fun K hK => ?_)
    go_wp2_with fail
    refine HSE.out.mono ?_; clear HSE
    intro e w6 h6'
    obtain ⟨A6, c6, rfl, hS6, hb6⟩ := h6'.toL
    refine hK _ _ ⟨fun _ => HB5.out.trans (hb6.mono HB5.out.size), ?_⟩
    clear hK K h6'
    have HS6 := Lib.hid hS6
    have HB6 := Lib.hid (HL2.out.trans ((HBD.out.mono (Nat.le_of_lt HS2.out)).trans ((HB5.out.trans (hb6.mono HB5.out.size)).mono (by have := HSD.out; have := HS2.out; omega))))
    clear hS6 hb6
    (try simp only [Act.put, List.setIfInBounds_toArray])
    refine mix_op rfl rfl (fun K hK => ?_)
    go_wp2_with fail
    refine ⟨fun h => absurd h (by decide), ?_⟩
    refine mix_op rfl rfl (fun K hK => ?_)
    go_wp2_with fail
    refine ⟨fun h => absurd h (by decide), ?_⟩
    refine mix_nil ?_
    go_wp2_with fail
    go_ret2
    exact ⟨A6, c6, by rw [HLL.out]; rfl, by rw [HLL.out]; exact HS6.out, HB6.out⟩
  · have hb : (E != 0) = true := by rw [bne_iff_ne]; exact h0
    have HLL : L = [] := by rw [HL.out, if_neg h0]
    subst HLL
    clear HL HG h0
    go_wp2_with fail
    go_ret2
    exact ⟨none, 0, rfl, ⟨Nat.le_refl _, Nat.zero_le _, .inl rfl⟩, HL2.out⟩

set_option maxHeartbeats 1000000 in
set_option maxRecDepth 100000 in
theorem rckeys_any (ags bad : List ByteArray) (Aa Ab : Option Addr) (ca cb : Nat) (w : World) (hc : CastW w ags bad Aa ca Ab cb) :
    Calls Tryd.prog 31 #[castV ags bad Aa ca Ab cb] w (ListS w (keysE ags bad)) := by
  obtain ⟨W0, hW0⟩ : ∃ W0, W0 = w.alloc (.cells #[.slice Aa ags.length ca, .slice Ab bad.length cb] 24) := ⟨_, rfl⟩
  have hl0 : Below w.heap.size w W0 := by rw [hW0]; exact below1 (Nat.le_refl _) _
  have hx0 : W0.heap[w.heap.size]? = some (boxC ags bad Aa ca Ab cb) := by rw [hW0]; exact heap_alloc_new _ _
  have hs0 : w.heap.size < W0.heap.size := by rw [hW0]; simp
  have HC0 := Lib.hid (hc.below hl0)
  obtain ⟨b0, b1, -⟩ := boxC_cells hx0
  have HV := Lib.hid (rcvalid_any ags bad Aa Ab ca cb W0 HC0.out)
  have HL0 := Lib.hid hl0; have HX0 := Lib.hid hx0; have HS0 := Lib.hid hs0; have HW0 := Lib.hid hW0
  clear hl0 hx0 hs0 hW0 hc
  have HG : Hid (castE ags bad = 0 → Good ags bad) := Lib.hid fun h => good_of h
  obtain ⟨L, hL⟩ : ∃ L, L = keysE ags bad := ⟨_, rfl⟩
  rw [← hL]
  unfold keysE at hL
  unfold castV at HV ⊢
  obtain ⟨E, hE⟩ : ∃ E, E = castE ags bad := ⟨_, rfl⟩
  rw [← hE] at HV hL HG
  clear hE
  have HL := Lib.hid hL; clear hL
  go_enter Tryd.func31, Tryd.ntmps31
  go_wp2_with fail
  rw [← HW0.out]
  refine HV.out.mono ?_
  rintro e w2 ⟨rfl, hl2⟩
  have hbx2 : w2.heap[w.heap.size]? = some (boxC ags bad Aa ca Ab cb) := by rw [hl2.below.block _ HS0.out]; exact HX0.out
  obtain ⟨c0, c1, -⟩ := boxC_cells hbx2
  have HC2 := Lib.hid (HC0.out.below hl2.below)
  have HL2 := Lib.hid (HL0.out.trans (hl2.below.mono (Nat.le_of_lt HS0.out)))
  have HS2 : Hid (w.heap.size < w2.heap.size) := Lib.hid (Nat.lt_of_lt_of_le HS0.out hl2.size)
  clear hl2 hbx2 b0 b1 HV
  by_cases h0 : E = 0
  · subst h0
    have hg := HG.out rfl
    have HLL : Hid (L = keysC ags) := by show _ = _; rw [HL.out, if_pos rfl]
    have h6 := hg.six
    have HGD := Lib.hid hg
    clear HG HL hg
    have HBEL := Lib.hid (rkeys_any ags bad ags Aa Ab Aa ca cb ca w2 HC2.out HC2.out.a h6 HGD.out.nodup)
    unfold castV at HBEL
    go_wp2_with fail
    refine HBEL.out.mono ?_; clear HBEL
    rintro e w3 ⟨v3, its3, rfl, hrow3, hits3, hb3⟩
    have hlen3 : its3.length ≤ 1000000 := by
      have h1 := congrArg List.length hits3
      have h2 := keys_len (sm := ags) HGD.out
      rw [List.length_map] at h1; omega
    have HSE := Lib.hid (rset_row hrow3 hlen3 (its_small hits3 (keysK_small _ _ _)))
    rw [hits3] at HSE
    have HB3 := Lib.hid hb3
    clear hrow3 hits3 hb3 hlen3
    go_wp2_with fail
    refine HSE.out.mono ?_; clear HSE
    intro e w6 h6'
    obtain ⟨A6, c6, rfl, hS6, hb6⟩ := h6'.toL
    have HS6 := Lib.hid hS6
    have HLK : Hid (L = Tm.set (keysK ags ags ags)) := HLL
    obtain ⟨TS, hTS⟩ : ∃ TS, TS = Tm.set (keysK ags ags ags) := ⟨_, rfl⟩
    rw [← hTS] at HS6 HLK
    rw [← hTS]
    clear hTS
    have HB6 := Lib.hid (HL2.out.trans ((HB3.out.trans (hb6.mono HB3.out.size)).mono (Nat.le_of_lt HS2.out)))
    clear hS6 hb6 h6' HLL
    have HLE := Lib.hid HLK.out
    go_wp2_with fail
    go_ret
    exact ⟨A6, c6, by rw [HLK.out]; rfl, by rw [HLK.out]; exact HS6.out, HB6.out⟩
  · have hb : (E != 0) = true := by rw [bne_iff_ne]; exact h0
    have HLL : L = [] := by rw [HL.out, if_neg h0]
    subst HLL
    clear HL HG h0
    go_wp2_with fail
    go_ret
    exact ⟨none, 0, rfl, ⟨Nat.le_refl _, Nat.zero_le _, .inl rfl⟩, HL2.out⟩

set_option maxHeartbeats 1000000 in
set_option maxRecDepth 100000 in
theorem rown_any (ags bad : List ByteArray) (Aa Ab : Option Addr) (ca cb : Nat) (x : ByteArray) (w : World) (hc : CastW w ags bad Aa ca Ab cb) (hx : x.size ≤ maxLen) :
    Calls Tryd.prog 33 #[castV ags bad Aa ca Ab cb, .string x] w (TermsS w (ownEr ags bad x) (ownL ags bad x)) := by
  have mixed : Tryd.prog.follows .mixedOrders = true := by kernel_rfl
  obtain ⟨W0, hW0⟩ : ∃ W0, W0 = w.alloc (.cells #[.slice Aa ags.length ca, .slice Ab bad.length cb] 24) := ⟨_, rfl⟩
  have hl0 : Below w.heap.size w W0 := by rw [hW0]; exact below1 (Nat.le_refl _) _
  have hx0 : W0.heap[w.heap.size]? = some (boxC ags bad Aa ca Ab cb) := by rw [hW0]; exact heap_alloc_new _ _
  have hs0 : w.heap.size < W0.heap.size := by rw [hW0]; simp
  have HC0 := Lib.hid (hc.below hl0)
  obtain ⟨b0, b1, -⟩ := boxC_cells hx0
  have HV := Lib.hid (rcvalid_any ags bad Aa Ab ca cb W0 HC0.out)
  have HL0 := Lib.hid hl0; have HX0 := Lib.hid hx0; have HS0 := Lib.hid hs0; have HW0 := Lib.hid hW0
  clear hl0 hx0 hs0 hW0 hc
  have HG : Hid (castE ags bad = 0 → Good ags bad) := Lib.hid fun h => good_of h
  obtain ⟨L, hL⟩ : ∃ L, L = ownL ags bad x := ⟨_, rfl⟩
  obtain ⟨R, hR⟩ : ∃ R, R = ownEr ags bad x := ⟨_, rfl⟩
  rw [← hL, ← hR]
  unfold ownL at hL
  unfold ownEr at hR
  unfold castV at HV ⊢
  obtain ⟨E, hE⟩ : ∃ E, E = castE ags bad := ⟨_, rfl⟩
  rw [← hE] at HV hL HG hR
  clear hE
  have HL := Lib.hid hL; clear hL
  have HR := Lib.hid hR; clear hR
  have HX := Lib.hid hx; clear hx
  go_enter Tryd.func33, Tryd.ntmps33
  go_wp2_with fail
  rw [← HW0.out]
  refine HV.out.mono ?_
  rintro e w2 ⟨rfl, hl2⟩
  have hbx2 : w2.heap[w.heap.size]? = some (boxC ags bad Aa ca Ab cb) := by rw [hl2.below.block _ HS0.out]; exact HX0.out
  obtain ⟨c0, c1, -⟩ := boxC_cells hbx2
  have HC2 := Lib.hid (HC0.out.below hl2.below)
  have HL2 := Lib.hid (HL0.out.trans (hl2.below.mono (Nat.le_of_lt HS0.out)))
  have HS2 : Hid (w.heap.size < w2.heap.size) := Lib.hid (Nat.lt_of_lt_of_le HS0.out hl2.size)
  clear hl2 hbx2 b0 b1 HV
  by_cases h0 : E = 0
  · subst h0
    have hg := HG.out rfl
    have h6 := hg.six
    have HGD := Lib.hid hg
    clear HG hg
    have HCT := Lib.hid (find_any ags Aa ca x w2 HC2.out.a)
    obtain ⟨p, hp⟩ : ∃ p, p = posS ags x := ⟨_, rfl⟩
    have hpq : hasS ags x = decide (0 ≤ p) := by rw [hasS_pos, hp]
    rw [← hp] at HCT
    clear hp
    have hpl : decide (p < 0) = !decide (0 ≤ p) := by
      by_cases h : 0 ≤ p
      · rw [decide_eq_true h, decide_eq_false (by omega)]; rfl
      · rw [decide_eq_false h, decide_eq_true (by omega)]; rfl
    cases hq : hasS ags x with
    | false =>
      rw [← hpq, hq] at hpl
      clear hpq
      have hpl : decide (p < 0) = true := hpl
      have HLL : L = [] := by rw [HL.out, if_neg (by rw [hq]; simp)]
      have HRR : R = 4 := by rw [HR.out, if_pos rfl, if_neg (by rw [hq]; simp)]
      subst HLL HRR
      clear HL HR hq
      go_wp2_with fail
      refine HCT.out.mono ?_
      rintro e w3 ⟨rfl, rfl⟩
      go_wp2_with fail
      go_ret2
      exact ⟨none, 0, rfl, ⟨Nat.le_refl _, Nat.zero_le _, .inl rfl⟩, HL2.out⟩
    | true =>
    have HLL : Hid (L = initC ags [x]) := by show _ = _; rw [HL.out, if_pos ⟨rfl, hq⟩]
    have HRR : R = 0 := by rw [HR.out, if_pos rfl, if_pos hq]
    subst HRR
    rw [← hpq, hq] at hpl
    clear hpq
    have hpl : decide (p < 0) = false := hpl
    clear HL HR hq
    go_wp2_with fail
    refine HCT.out.mono ?_; clear HCT
    rintro e w2' ⟨rfl, hw⟩
    subst hw
    go_wp2_with fail
    refine wp_region_mix (fun Y => Below w2'.drew.heap.size w2'.drew Y) 8 (.held 0 (.held 2 (.held 3 (.two 1 4 (.op 4 (.op 5 (.op 6 (.op 7 (.op 8 (.op 9 .nil)))))) (.op 1 (.op 5 (.op 6 (.op 7 (.op 8 (.op 9 .nil)))))))))) mixed (by kernel_rfl) ?_
    have HBD : Hid (Below w2'.heap.size w2' w2'.drew) := Lib.hid ((Below.refl _ _).drew)
    have HSD : Hid (w2'.drew.heap.size = w2'.heap.size) := Lib.hid rfl
    have hd0 : w2'.drew.cell? ⟨w.heap.size, 0, none⟩ = some (.slice Aa ags.length ca) := c0
    have hd1 : w2'.drew.cell? ⟨w.heap.size, 1, none⟩ = some (.slice Ab bad.length cb) := c1
    clear c0 c1
    generalize w2'.drew = D at *
    refine mix_take (v := .agg #[.slice Aa ags.length ca, .slice Ab bad.length cb]) rfl rfl (fun _ _ _ h => h) (Below.refl _ _) (fun Y hY => by
      have z0 := (hY.cell (World.block_lt hd0)).trans hd0
      have z1 := (hY.cell (World.block_lt hd1)).trans hd1
      clear hd0 hd1 hY
      (try simp only [Act.put]); go_simp) ?_
    refine mix_take (v := .agg #[.slice Aa ags.length ca, .slice Ab bad.length cb]) rfl rfl (fun _ _ _ h => h) (Below.refl _ _) (fun Y hY => by
      have z0 := (hY.cell (World.block_lt hd0)).trans hd0
      have z1 := (hY.cell (World.block_lt hd1)).trans hd1
      clear hd0 hd1 hY
      (try simp only [Act.put]); go_simp) ?_
    refine mix_take (v := .string x) rfl rfl (fun _ _ _ h => h) (Below.refl _ _) (fun Y hY => by (try simp only [Act.put]); go_simp) ?_
    (try simp only [Act.put, List.setIfInBounds_toArray])
    have hcD := HC2.out.below HBD.out
    have HCD := Lib.hid hcD; clear hcD
    refine mix_two ?_ ?_
    case' refine_2 =>
      refine mix_op rfl rfl (fun K hK => ?_)
      go_wp2_with fail
      refine ⟨fun _ => below1 (Nat.le_refl _) _, ?_⟩
      obtain ⟨Z, hZ⟩ : ∃ Z, Z = D.alloc (.cells #[.string x] 9) := ⟨_, rfl⟩
      rw [← hZ]
      have hbZ : Below D.heap.size D Z := by rw [hZ]; exact below1 (Nat.le_refl _) _
      have hxs := one_str HX.out hZ
      have HBZ := Lib.hid hbZ; have HXS := Lib.hid hxs
      clear hZ hbZ hxs
      have HPU := Lib.hid (rpubs_any ags bad Aa Ab ca cb Z (HCD.out.below HBZ.out) h6)
      unfold castV at HPU
      (try simp only [Act.put, List.setIfInBounds_toArray])
      refine mix_op rfl rfl (fun K hK => ?_)
      go_wp2_with fail
      refine HPU.out.mono ?_; clear HPU
      rintro e w3 ⟨v3, its3, rfl, hrow3, hits3, hb3⟩
      refine hK _ _ ⟨fun _ => HBZ.out.trans (hb3.mono HBZ.out.size), ?_⟩
      clear hK K
      have HXS := Lib.hid (HXS.out.go hb3 hb3.size)
      have hc3 := (HCD.out.below HBZ.out).below hb3
      have HR3 : Hid (RowT w3 D.heap.size (fun b => D.heap.size ≤ b) v3 its3) := Lib.hid (hrow3.loosen HBZ.out.size (fun b h => Nat.le_trans HBZ.out.size h))
      have HB3 := Lib.hid (HBZ.out.trans (hb3.mono HBZ.out.size)); have HI3 : Hid (its3.map (·.1) = pubsK ags) := Lib.hid hits3
      clear HBZ hb3 hrow3 hits3
      have HKE := Lib.hid (rkeys_any ags bad [x] Aa Ab _ ca cb 1 w3 hc3 HXS.out h6 HGD.out.nodup)
      clear hc3
    case' refine_1 =>
      refine mix_op rfl rfl (fun K hK => ?_)
      have HPU := Lib.hid (rpubs_any ags bad Aa Ab ca cb D HCD.out h6)
      unfold castV at HPU
      go_wp2_with fail
      refine HPU.out.mono ?_; clear HPU
      rintro e w3' ⟨v3, its3, rfl, hrow3, hits3, hb3⟩
      refine hK _ _ ⟨fun _ => hb3, ?_⟩
      clear hK K
      have HR3' := Lib.hid hrow3; have HB3' := Lib.hid hb3; have HI3 : Hid (its3.map (·.1) = pubsK ags) := Lib.hid hits3
      clear hrow3 hits3 hb3
      (try simp only [Act.put, List.setIfInBounds_toArray])
      refine mix_op rfl rfl (fun K hK => ?_)
      go_wp2_with fail
      refine ⟨fun _ => HB3'.out.alloc HB3'.out.size _, ?_⟩
      obtain ⟨w3, hZ⟩ : ∃ Z, Z = w3'.alloc (.cells #[.string x] 9) := ⟨_, rfl⟩
      rw [← hZ]
      have hbZ : Below w3'.heap.size w3' w3 := by rw [hZ]; exact below1 (Nat.le_refl _) _
      have hxs := one_str HX.out hZ
      clear hZ
      have HXS := Lib.hid hxs
      have hc3 := (HCD.out.below HB3'.out).below hbZ
      have HR3 := Lib.hid (HR3'.out.below hbZ)
      have HB3 := Lib.hid (HB3'.out.trans (hbZ.mono HB3'.out.size))
      have HKE := Lib.hid (rkeys_any ags bad [x] Aa Ab _ ca cb 1 w3 hc3 HXS.out h6 HGD.out.nodup)
      clear hbZ hxs hc3 HR3' HB3'
    all_goals
      unfold castV at HKE
      (try simp only [Act.put, List.setIfInBounds_toArray])
      refine mix_op rfl rfl (fun K hK => ?_)
      go_wp2_with fail
      refine HKE.out.mono ?_; clear HKE
      rintro e w4 ⟨v4, its4, rfl, hrow4, hits4, hb4⟩
      refine hK _ _ ⟨fun _ => HB3.out.trans (hb4.mono HB3.out.size), ?_⟩
      clear hK K
      have hl3 : its3.length ≤ 6 := by
        have h1 := congrArg List.length HI3.out
        rw [List.length_map, pubsK, List.length_map] at h1; omega
      have hl4 : its4.length ≤ 42 := by
        have h1 := congrArg List.length hits4
        have h2 := keys_len (sm := [x]) HGD.out
        rw [List.length_map] at h1; omega
      obtain ⟨v5, w5, hap, hrow5, hb5⟩ := rowT_addL (HR3.out.below hb4) (by have := HB3.out.size; have := hb4.size; omega) hrow4 HB3.out.size (fun k hk => (HR3.out.lt k hk).2) (by omega)
      have hm5 : (its3 ++ its4).map (·.1) = pubsK ags ++ keysK ags [x] ags := by rw [List.map_append, HI3.out, hits4]
      have hs5 : ∀ x ∈ its3 ++ its4, x.1.size ≤ 1000 := fun x hx => by
        rcases List.mem_append.1 hx with hx | hx
        · exact its_small HI3.out (pubsK_small _) x hx
        · exact its_small hits4 (keysK_small _ _ _) x hx
      have HSE := Lib.hid (rset_row hrow5 (by rw [List.length_append]; omega) hs5)
      rw [hm5, initC_swap] at HSE
      have HB5 := Lib.hid ((HB3.out.trans (hb4.mono HB3.out.size)).trans hb5)
      clear hrow4 hits4 hb4 hl3 hl4 hrow5 hb5 hm5 hs5 HR3 HI3
      (try simp only [Act.put, List.setIfInBounds_toArray])
      refine mix_op rfl rfl (fun K hK => ?_)
      refine wp_run_append (.tmp 18) (.tmp 22) (by rfl) (by rfl) (by rfl) hap ?_
      refine hK _ _ ⟨fun _ => HB5.out, ?_⟩
      clear hK K hap
      (try simp only [Act.put, List.setIfInBounds_toArray])
      refine mix_op rfl rfl (fun K hK => ?_)
      go_wp2_with fail
      refine HSE.out.mono ?_; clear HSE
      intro e w6 h6'
      obtain ⟨A6, c6, rfl, hS6, hb6⟩ := h6'.toL
      refine hK _ _ ⟨fun _ => HB5.out.trans (hb6.mono HB5.out.size), ?_⟩
      clear hK K h6'
      have HS6 := Lib.hid hS6
      have HB6 := Lib.hid (HL2.out.trans ((HBD.out.mono (Nat.le_of_lt HS2.out)).trans ((HB5.out.trans (hb6.mono HB5.out.size)).mono (by have := HSD.out; have := HS2.out; omega))))
      clear hS6 hb6
      (try simp only [Act.put, List.setIfInBounds_toArray])
      refine mix_op rfl rfl (fun K hK => ?_)
      go_wp2_with fail
      refine ⟨fun h => absurd h (by decide), ?_⟩
      refine mix_op rfl rfl (fun K hK => ?_)
      go_wp2_with fail
      refine ⟨fun h => absurd h (by decide), ?_⟩
      refine mix_nil ?_
      go_wp2_with fail
      go_ret2
      exact ⟨A6, c6, by rw [HLL.out]; rfl, by rw [HLL.out]; exact HS6.out, HB6.out⟩
  · have hb : (E != 0) = true := by rw [bne_iff_ne]; exact h0
    have HLL : L = [] := by rw [HL.out, if_neg (fun h => h0 h.1)]
    have HRR : R = E := by rw [HR.out, if_neg h0]
    subst HLL HRR
    clear HL HR HG h0
    go_wp2_with fail
    go_ret2
    exact ⟨none, 0, rfl, ⟨Nat.le_refl _, Nat.zero_le _, .inl rfl⟩, HL2.out⟩
end Go.Proofs.YtpjmdilpldaapaaDoor
