/- cast.Sessions. -/
import Derived.Test.YtpjmdilpldaapaaDoorCsess0
import Derived.Test.YtpjmdilpldaapaaDoorCvalid
import Derived.Test.YtpjmdilpldaapaaDoorUmix5
namespace Go.Proofs.YtpjmdilpldaapaaDoor
open Go.RowKit Go.Sort

attribute [local irreducible] wpMix4
set_option maxHeartbeats 8000000 in
set_option maxRecDepth 100000 in
theorem csess_any (ags bad : List ByteArray) (Aa Ab : Option Addr) (ca cb : Nat) (roles n : Int) (w : World) (hc : CastW w ags bad Aa ca Ab cb) :
    Calls Tryd.prog 13 #[castV ags bad Aa ca Ab cb, .int .i64 roles, .int .i64 n] w (SessOf w (sessEr ags bad roles n) (sessLs ags bad roles n)) := by
  have mixed : Tryd.prog.follows .mixedOrders = true := by kernel_rfl
  obtain ⟨W0, hW0⟩ : ∃ W0, W0 = w.alloc (.cells #[.slice Aa ags.length ca, .slice Ab bad.length cb] 24) := ⟨_, rfl⟩
  have hl0 : Below w.heap.size w W0 := by rw [hW0]; exact below1 (Nat.le_refl _) _
  have hx0 : W0.heap[w.heap.size]? = some (boxC ags bad Aa ca Ab cb) := by rw [hW0]; exact heap_alloc_new _ _
  have hs0 : w.heap.size < W0.heap.size := by rw [hW0]; simp
  have HC0 := Lib.hid (hc.below hl0)
  obtain ⟨b0, b1, -⟩ := boxC_cells hx0
  have HV := Lib.hid (cvalid_any ags bad Aa Ab ca cb W0 HC0.out)
  have HL0 := Lib.hid hl0; have HX0 := Lib.hid hx0; have HS0 := Lib.hid hs0; have HW0 := Lib.hid hW0
  clear hl0 hx0 hs0 hW0 hc
  have HG : Hid (castE ags bad = 0 → Good ags bad) := Lib.hid fun h => good_of h
  obtain ⟨L, hL⟩ : ∃ L, L = sessLs ags bad roles n := ⟨_, rfl⟩
  obtain ⟨R, hR⟩ : ∃ R, R = sessEr ags bad roles n := ⟨_, rfl⟩
  rw [← hL, ← hR]
  unfold sessLs at hL
  unfold sessEr at hR
  unfold castV at HV ⊢
  obtain ⟨E, hE⟩ : ∃ E, E = castE ags bad := ⟨_, rfl⟩
  rw [← hE] at HV hL HG hR
  clear hE
  have HL := Lib.hid hL; have HR := Lib.hid hR
  clear hL hR
  go_enter Tryd.func13, Tryd.ntmps13
  go_wp2_with fail
  rw [← HW0.out]
  refine HV.out.mono ?_
  rintro e w2 ⟨rfl, hl2⟩
  have hbx2 : w2.heap[w.heap.size]? = some (boxC ags bad Aa ca Ab cb) := by rw [hl2.below.block _ HS0.out]; exact HX0.out
  obtain ⟨c0, c1, -⟩ := boxC_cells hbx2
  have HC2 := Lib.hid (HC0.out.below hl2.below)
  have HL2 := Lib.hid (HL0.out.trans (hl2.below.mono (Nat.le_of_lt HS0.out)))
  have HS2 : Hid (w.heap.size < w2.heap.size) := Lib.hid (Nat.lt_of_lt_of_le HS0.out hl2.size)
  have HX2 := Lib.hid hbx2
  clear hl2 hbx2 b0 b1 HV HW0 HX0 HC0 HL0 HS0
  by_cases h0 : E = 0
  case neg =>
    have hb : (E != 0) = true := by rw [bne_iff_ne]; exact h0
    have hLL : L = [] := by rw [HL.out, if_pos h0]
    have hRR : R = E := by rw [HR.out, if_pos h0]
    subst hLL hRR
    clear HL HR HG h0
    go_wp2_with fail
    go_ret2
    exact ⟨none, 0, rfl, RepSL.nil, HL2.out⟩
  subst h0
  have hg := HG.out rfl
  have HGD := Lib.hid hg
  have h6 := hg.six
  clear HG hg
  by_cases hr1 : roles < 2
  case pos =>
    have hLL : L = [] := by rw [HL.out, if_neg (by simp), if_pos (Or.inl hr1)]
    have hRR : R = 7 := by rw [HR.out, if_neg (by simp), if_pos (Or.inl hr1)]
    subst hLL hRR
    clear HL HR
    go_wp2_with fail
    go_ret2
    exact ⟨none, 0, rfl, RepSL.nil, HL2.out⟩
  by_cases hr2 : 4 < roles
  case pos =>
    have hLL : L = [] := by rw [HL.out, if_neg (by simp), if_pos (Or.inr (Or.inl hr2))]
    have hRR : R = 7 := by rw [HR.out, if_neg (by simp), if_pos (Or.inr (Or.inl hr2))]
    subst hLL hRR
    clear HL HR
    go_wp2_with fail
    go_ret2
    exact ⟨none, 0, rfl, RepSL.nil, HL2.out⟩
  by_cases hn1 : n < 1
  case pos =>
    have hLL : L = [] := by rw [HL.out, if_neg (by simp), if_pos (Or.inr (Or.inr (Or.inl hn1)))]
    have hRR : R = 7 := by rw [HR.out, if_neg (by simp), if_pos (Or.inr (Or.inr (Or.inl hn1)))]
    subst hLL hRR
    clear HL HR
    go_wp2_with fail
    go_ret2
    exact ⟨none, 0, rfl, RepSL.nil, HL2.out⟩
  by_cases hn2 : 4 < n
  case pos =>
    have hLL : L = [] := by rw [HL.out, if_neg (by simp), if_pos (Or.inr (Or.inr (Or.inr hn2)))]
    have hRR : R = 7 := by rw [HR.out, if_neg (by simp), if_pos (Or.inr (Or.inr (Or.inr hn2)))]
    subst hLL hRR
    clear HL HR
    go_wp2_with fail
    go_ret2
    exact ⟨none, 0, rfl, RepSL.nil, HL2.out⟩
  obtain ⟨ro, hro⟩ : ∃ ro : Nat, roles = (ro : Int) := ⟨roles.toNat, by omega⟩
  obtain ⟨nn, hnn⟩ : ∃ nn : Nat, n = (nn : Int) := ⟨n.toNat, by omega⟩
  subst hro hnn
  have HLL : Hid (L = sessL (allS ags bad ro ro) nn) := by
    show _ = _; rw [HL.out, if_neg (by simp), if_neg (by omega), Int.toNat_natCast, Int.toNat_natCast]
  have HRR : Hid (R = sessE (allS ags bad ro ro).length nn) := by
    show _ = _; rw [HR.out, if_neg (by simp), if_neg (by omega), Int.toNat_natCast, Int.toNat_natCast]
  clear HL HR
  have hro4 : ro ≤ 4 := by omega
  have hnn4 : nn ≤ 4 := by omega
  have hnn1 : 1 ≤ nn := by omega
  have ht := tups_len4 h6 (n := ro) hro4
  have HT := Lib.hid ht; clear ht
  go_wp2_with fail
  -- all sessions
  go_loopw [9, 45] (fun v i wr => ∃ (k : Nat) (its : List Se), k ≤ ro ∧ i = .int .i64 k ∧ Hid (SeRow wr w2.heap.size v its) ∧ Hid (its.map (·.1) = allS ags bad ro k) ∧ Hid (Below w2.heap.size w2 wr)) (fun _ i _ => ro - (intOf i).toNat)
  case atStart => exact ⟨0, [], Nat.zero_le _, rfl, SeRow.nil _ _, rfl, Below.refl _ _⟩
  case round =>
    obtain ⟨k, its, hk, rfl, HROW, HITS, HB⟩ := hrel
    have i1 : (0 : Int) ≤ (k : Int) := Int.natCast_nonneg _
    have hcw := HC2.out.below HB.out
    have hbx : wr.heap[w.heap.size]? = some (boxC ags bad Aa ca Ab cb) := by rw [HB.out.block _ HS2.out]; exact HX2.out
    obtain ⟨d0, d1, -⟩ := boxC_cells hbx
    by_cases hlt : k < ro
    · have i2 : (k : Int) < (ro : Int) := by omega
      have HCH := Lib.hid (chosen_any ags Aa ca h6 ro wr hro4 hcw.a)
      have HAS := Lib.hid (allS_succ ags bad ro k)
      have hilk : its.length ≤ 5184 := by
        have h1 := congrArg List.length HITS.out
        have h2 := allS_length ags bad ro k
        have h3 : k * (tups ags ro).length ≤ 4 * 1296 := Nat.mul_le_mul (by omega) HT.out
        rw [List.length_map] at h1
        omega
      clear hcw hbx
      go_wp2_with fail
      refine HCH.out.mono ?_
      rintro e w3 ⟨v3, its3, rfl, hrow3, hits3, hb3⟩
      obtain ⟨A3, c3, rfl⟩ := hrow3.form
      have hlen3 : its3.length = (tups ags ro).length := by have := congrArg List.length hits3; simpa using this
      have HR3 := Lib.hid hrow3; have HI3 := Lib.hid hits3; have HB3 := Lib.hid hb3; have HN3 := Lib.hid hlen3
      have hl3 : its3.length ≤ 1296 := by rw [hlen3]; exact HT.out
      have HRW := Lib.hid (HROW.out.below hb3)
      have HOW : Hid (∀ b, u9.ownBlock = some b → b < wr.heap.size) := Lib.hid fun b hb => (HROW.out.lt b hb).2
      have HBW := Lib.hid (HB.out.trans (hb3.mono HB.out.size))
      clear hrow3 hits3 hb3 hlen3 HCH HROW d0 d1
      go_wp2_with fail
      generalize wr = wo at *
      go_loopw [9, 53] (fun v j wq => ∃ (m : Nat) (itm : List Se), m ≤ its3.length ∧ j = .int .i64 m ∧ Hid (SeRow wq w2.heap.size v itm) ∧ Hid (itm.map (·.1) = allS ags bad ro k ++ roleS bad ((tups ags ro).take m) k) ∧ itm.length ≤ its.length + m ∧ Hid (Below w2.heap.size w2 wq) ∧
          Hid (∀ b, wo.heap.size ≤ b → b < w3.heap.size → wq.heap[b]? = w3.heap[b]?) ∧ Hid (w3.heap.size ≤ wq.heap.size) ∧ Hid (∀ b, v.ownBlock = some b → b < wo.heap.size ∨ w3.heap.size ≤ b)) (fun _ j _ => its3.length - (intOf j).toNat)
      case atStart => exact ⟨0, its, Nat.zero_le _, rfl, HRW.out, by show _ = _; rw [HITS.out]; simp [roleS], by omega, HBW.out, fun _ _ _ => rfl, Nat.le_refl _, fun b hb => .inl (HOW.out b hb)⟩
      case round =>
        obtain ⟨m, itm, hm, rfl, HRQ, HIQ, hlm, HBQ, HKQ, HSQ, HOQ⟩ := hrel
        have j1 : (0 : Int) ≤ (m : Int) := Int.natCast_nonneg _
        clear HRW HBW HOW
        have hcw := HC2.out.below HBQ.out
        have hbx : wr.heap[w.heap.size]? = some (boxC ags bad Aa ca Ab cb) := by rw [HBQ.out.block _ HS2.out]; exact HX2.out
        obtain ⟨d0, d1, -⟩ := boxC_cells hbx
        by_cases hltm : m < its3.length
        · have j2 : (m : Int) < (its3.length : Int) := by omega
          have hmt : m < (tups ags ro).length := by have := HN3.out; omega
          have hsr := HR3.out.keep HSQ.out (fun b h1 h2 => HKQ.out b h1 h2)
          obtain ⟨g3, c3', hA3, hslot⟩ := hsr.slot m hltm
          have hrp := RepV.mono (P' := fun b => wo.heap.size ≤ b ∧ b < w3.heap.size) (w' := wr) (fun b h => ⟨h.1, h.2.1⟩) (fun p hp => World.cell?_of_block (HKQ.out _ hp.1 hp.2.1)) (HR3.out.reps its3[m] (List.getElem_mem hltm))
          have hx : its3[m].1 = strs (tups ags ro)[m] := by
            have := congrArg (·[m]?) HI3.out
            simpa [hltm, hmt] using this
          have hrs := roleS_succ bad (tups ags ro) k m hmt
          obtain ⟨hlen, -, hmem⟩ := mem_tups ags ro (tups ags ro)[m] (List.getElem_mem hmt)
          obtain ⟨hd, hhd⟩ : ∃ hd, hd = (tups ags ro)[m] := ⟨_, rfl⟩
          rw [← hhd] at hx hrs hlen hmem
          obtain ⟨X, hX⟩ : ∃ X, X = its3[m] := ⟨_, rfl⟩
          rw [← hX] at hslot hrp hx
          clear hX hhd
          obtain ⟨vs, Ah, nh, chd⟩ := X
          simp only at hx hrp
          subst hx
          obtain ⟨rfl, hrn⟩ := hrp.toN (fun x hx => hcw.a.2.2.1 x (hmem x hx))
          injection hA3 with hA31 _ hA33
          subst hA31 hA33
          simp only [ivVal] at hslot
          have hkl : k < hd.length := by omega
          obtain ⟨hb, hoff, hAh, -, hcells⟩ := hrn.cells (by intro h; rw [h] at hkl; simp at hkl)
          have hck := hcells k hkl
          rw [getD_get hd k hkl] at hrs
          have hcn : ∀ z, Calls Tryd.prog 43 #[.slice Ab bad.length cb, .string hd[k]] (wr.drewN z) fun e w' => e = .returned (.bool (hasS bad hd[k])) ∧ w' = wr.drewN z := fun z =>
            containsN bad Ab cb hd[k] (wr.drewN z) (hcw.b.go ((Lay.refl wr.heap.size wr).drewN z).below (Nat.le_refl _))
          have HRN := Lib.hid hrn
          obtain ⟨a, ha⟩ : ∃ a, a = hd[k] := ⟨_, rfl⟩
          rw [← ha] at hck hrs hcn
          have HCN := Lib.hid hcn; have HRS := Lib.hid hrs; have HDL := Lib.hid hlen
          have hkd : (k : Int) < (hd.length : Int) := by omega
          have hdl4 : hd.length ≤ 4 := by omega
          clear ha hcells hcn hrs hmem hlen hrp hrn hsr hcw hbx
          subst hAh
          cases hq : hasS bad a with
          | true =>
            rw [hq] at HCN HRS
            have HNX : Hid (roleS bad ((tups ags ro).take (m + 1)) k = roleS bad ((tups ags ro).take m) k) := by show _ = _; rw [HRS.out, if_pos rfl, List.append_nil]
            clear HRS hq
            go_wp2_with fail
            go_quiet ((go_at_call 43; exact Calls.quiet_of_same (HCN.out _)))
            have hlq : Lay wr.heap.size wr (wr.drewN nq) := (Lay.refl _ _).drewN nq
            have HR2 := Lib.hid (HRQ.out.below hlq.below)
            have HB2 := Lib.hid (HBQ.out.trans (hlq.below.mono HBQ.out.size))
            have HK2 : Hid (∀ b, wo.heap.size ≤ b → b < w3.heap.size → (wr.drewN nq).heap[b]? = w3.heap[b]?) := Lib.hid fun b h1 h2 => HKQ.out b h1 h2
            have HS3 : Hid (w3.heap.size ≤ (wr.drewN nq).heap.size) := HSQ
            clear hlq HRQ HBQ HKQ HSQ
            go_wp2_with fail
            go_roundw
            case rel => exact ⟨m + 1, itm, by omega, by go_num, HR2.out, by show _ = _; rw [HNX.out]; exact HIQ.out, by omega, HB2.out, HK2.out, HS3.out, HOQ.out⟩
            case measure => simp [intOf]; omega
          | false =>
            rw [hq] at HCN HRS
            have HNX : Hid (roleS bad ((tups ags ro).take (m + 1)) k = roleS bad ((tups ags ro).take m) k ++ [(k, hd)]) := by show _ = _; rw [HRS.out, if_neg (by simp)]
            clear HRS hq
            go_wp2_with fail
            go_quiet ((go_at_call 43; exact Calls.quiet_of_same (HCN.out _)))
            have hlq : Lay wr.heap.size wr (wr.drewN nq) := (Lay.refl _ _).drewN nq
            have hr2 := HRQ.out.below hlq.below
            have hb2 := HBQ.out.trans (hlq.below.mono HBQ.out.size)
            have hk2 : ∀ b, wo.heap.size ≤ b → b < w3.heap.size → (wr.drewN nq).heap[b]? = w3.heap[b]? := fun b h1 h2 => HKQ.out b h1 h2
            have hs3 : w3.heap.size ≤ (wr.drewN nq).heap.size := HSQ.out
            have hwo : w2.heap.size ≤ wo.heap.size := HB.out.size
            have hrn2 : RepN (wr.drewN nq) (fun b => w2.heap.size ≤ b ∧ b < (wr.drewN nq).heap.size ∧ u9.ownBlock ≠ some b) hd (some ⟨hb, hoff, none⟩) chd := RepN.mono (fun b h => ⟨by omega, by omega, fun e => by rcases HOQ.out b e with h1 | h1 <;> omega⟩) (fun p _ => rfl) HRN.out
            obtain ⟨g5, c5, w5, hap5, hr5, hg5⟩ := serow_add hr2 hb2.size ((k, hd), some ⟨hb, hoff, none⟩, chd) hrn2 (by omega)
            have HR5 := Lib.hid hr5
            have HB5 := Lib.hid (hb2.trans hg5.below)
            have HK5 : Hid (∀ b, wo.heap.size ≤ b → b < w3.heap.size → w5.heap[b]? = w3.heap[b]?) := Lib.hid fun b h1 h2 => by
              rw [hg5.old b (by omega) (fun e => by rcases HOQ.out b e with h | h <;> omega)]; exact hk2 b h1 h2
            have HS5 : Hid (w3.heap.size ≤ w5.heap.size) := Lib.hid (Nat.le_trans hs3 hg5.size)
            have HO5 : Hid (∀ b, (Value.slice (some ⟨g5, 0, none⟩) (itm.length + 1) c5).ownBlock = some b → b < wo.heap.size ∨ w3.heap.size ≤ b) := Lib.hid fun b hb => by
              rcases hg5.own with h | h
              · rw [h] at hb; exact HOQ.out b hb
              · right; have := h b hb; omega
            have HI5 : Hid ((itm ++ [(((k, hd), some ⟨hb, hoff, none⟩, chd) : Se)]).map (·.1) = allS ags bad ro k ++ roleS bad ((tups ags ro).take (m + 1)) k) := by
              show _ = _; rw [List.map_append, HIQ.out, HNX.out, List.append_assoc]; rfl
            have hl5 : (itm ++ [(((k, hd), some ⟨hb, hoff, none⟩, chd) : Se)]).length = itm.length + 1 := by simp
            have HL5 := Lib.hid hl5
            generalize itm ++ [(((k, hd), some ⟨hb, hoff, none⟩, chd) : Se)] = it5 at *
            simp only at hap5
            clear hlq hr2 hb2 hk2 hs3 hrn2 hr5 hg5 HRQ HBQ HKQ HSQ HOQ HRN HIQ HNX hwo hl5
            go_wp2_with (at_builtin; refine wpList_run_append rfl _ _ rfl rfl rfl hap5 ?_)
            clear hap5
            go_roundw
            case rel => exact ⟨m + 1, it5, by omega, by go_num, HR5.out, HI5.out, by have := HL5.out; omega, HB5.out, HK5.out, HS5.out, HO5.out⟩
            case measure => simp [intOf]; omega
        · obtain rfl : m = its3.length := by omega
          have HI : Hid (itm.map (·.1) = allS ags bad ro (k + 1)) := by show _ = _; rw [HIQ.out, HAS.out, HN3.out, List.take_length]
          clear HIQ hcw hbx d0 d1
          go_wp2_with fail
          go_roundw
          case rel => exact ⟨k + 1, itm, by omega, by go_num, HRQ.out, HI.out, HBQ.out⟩
          case measure => simp [intOf]; omega
    · obtain rfl : k = ro := by omega
      have hitl : its.length = (allS ags bad k k).length := by have := congrArg List.length HITS.out; rwa [List.length_map] at this
      clear hcw hbx
      obtain ⟨Al, cl, hv⟩ := HROW.out.form
      subst hv
      have hM : its.length ≤ 5184 := by
        have h2 := allS_length ags bad k k
        have h3 : k * (tups ags k).length ≤ 4 * 1296 := Nat.mul_le_mul (by omega) HT.out
        omega
      have HMM := Lib.hid hitl; clear hitl
      have HAL := Lib.hid HROW.out
      have HBA := Lib.hid HB.out
      clear HROW HB d0 d1
      obtain ⟨wa, hwa⟩ : ∃ wa, wa = wr.alloc (.cells #[.slice none 0 0] 65) := ⟨_, rfl⟩
      have hown : wa.ownsRow wr.heap.size 65 1 (.slice (some ⟨wr.heap.size, 0, none⟩) 1 1) 1 [.slice none 0 0] := by
        rw [hwa]; exact World.ownsRow_lit wr #[.slice none 0 0] 1 (Nat.le_refl _) (by simp [maxLen]) rfl
      have hba : Below wr.heap.size wr wa := by rw [hwa]; exact below1 (Nat.le_refl _) _
      have HWA := Lib.hid hwa; have HOWN := Lib.hid hown; have HBW := Lib.hid hba
      clear hwa hown hba
      go_wp2_with fail
      rw [← HWA.out]
      generalize hMM : its.length = M at *
      generalize wr = wz at *
      have HMN := Lib.hid hMM; clear hMM
      go_loopw [13, 75] (fun v i wl => ∃ (r : Nat) (itl : List Iv), r ≤ nn ∧ i = .int .i64 r ∧ Hid (SRow 65 1 wl wz.heap.size v itl) ∧ Hid (itl.map (·.1) = (idxR M r 0).map ints') ∧ Hid (cnt r M ≤ 2000) ∧ Hid (Below wz.heap.size wz wl)) (fun _ i _ => nn - (intOf i).toNat)
      case atStart => exact ⟨0, [([], none, 0, 0)], Nat.zero_le _, rfl, ⟨HOWN.out, fun x hx => by rw [List.mem_singleton.1 hx]; exact RepV.nil⟩, rfl, by show cnt 0 M ≤ 2000; rw [cnt_zero]; omega, HBW.out⟩
      case round =>
        obtain ⟨r, itl, hr, rfl, HRL, HIL, HCN, HBL⟩ := hrel
        have r1 : (0 : Int) ≤ (r : Int) := Int.natCast_nonneg _
        clear HWA HOWN HBW
        obtain ⟨A13, c13, hv13⟩ := HRL.out.form
        subst hv13
        have hll : itl.length = cnt r M := by have := congrArg List.length HIL.out; rwa [List.length_map, List.length_map, idxR_cnt] at this
        have hl2 : itl.length ≤ 2000 := by rw [hll]; exact HCN.out
        have HLL2 := Lib.hid hll; clear hll
        by_cases hltr : r < nn
        · have r2 : (r : Int) < (nn : Int) := by omega
          go_wp2_with fail
          generalize wr = wl at *
          go_loopw [14, 79] (fun v i wq => ∃ (k : Nat) (itk : List Iv), k ≤ itl.length ∧ i = .int .i64 k ∧ itk.length ≤ 2000 ∧ Hid (SRow 65 1 wq wl.heap.size v itk) ∧ Hid (itk.map (·.1) = (lvlN M r k).map ints') ∧ Hid (Below wl.heap.size wl wq)) (fun _ i _ => itl.length - (intOf i).toNat)
          case atStart => exact ⟨0, [], Nat.zero_le _, rfl, by simp, SRow.nil _ _ _ _, rfl, Below.refl _ _⟩
          case round =>
            obtain ⟨q, itk, hq, rfl, hlk, HRK, HIK, HBK⟩ := hrel
            have q1 : (0 : Int) ≤ (q : Int) := Int.natCast_nonneg _
            by_cases hltq : q < itl.length
            · have q2 : (q : Int) < (itl.length : Int) := by omega
              have hqi : q < (idxR M r 0).length := by rw [idxR_cnt]; have := HLL2.out; omega
              obtain ⟨g13, c13', hA13, hslot⟩ := (HRL.out.below HBK.out).slot q hltq
              have hrp := HRL.out.reps itl[q] (List.getElem_mem hltq)
              have hx : itl[q].1 = ints' (idxR M r 0)[q] := by
                have := congrArg (·[q]?) HIL.out
                simpa [hltq, hqi] using this
              have hls := lvlN_succ M r q hqi
              obtain ⟨hlen, hmem⟩ := mem_idxR M r 0 (idxR M r 0)[q] (List.getElem_mem hqi)
              have hfm := last_lt (List.getElem_mem hqi)
              obtain ⟨l, hl⟩ : ∃ l, l = (idxR M r 0)[q] := ⟨_, rfl⟩
              rw [← hl] at hx hls hlen hmem hfm
              obtain ⟨X, hX⟩ : ∃ X, X = itl[q] := ⟨_, rfl⟩
              rw [← hX] at hslot hrp hx
              clear hX hl
              obtain ⟨vs, Ah, nh, chd⟩ := X
              simp only at hx hrp
              subst hx
              have hnh : nh = l.length := by have := hrp.1; rw [Nat.mul_one, ints', List.length_map] at this; exact this.symm
              subst hnh
              injection hA13 with hA131 _ hA133
              subst hA131 hA133
              simp only [ivVal] at hslot
              have hrq : RepV wr (fun b => b < wl.heap.size) 1 (ints' l) Ah l.length chd := RepV.mono (fun b h => h.2.1) (fun p hp => HBK.out.cell hp.2.1) hrp
              have HRQ := Lib.hid hrp; have HLS := Lib.hid hls; have HLEN := Lib.hid hlen
              have HFM : Hid (l.getLastD 0 ≤ M) := Lib.hid hfm
              have hl4 : l.length ≤ 4 := by omega
              clear hrp hls hlen hfm
              by_cases hemp : l = []
              case' pos =>
                have hl0 : l.length = 0 := by rw [hemp]; rfl
                have HCL : Hid (∀ X, Below wl.heap.size wl X → Calls Tryd.prog 44 #[.slice Ah 0 chd] X fun e w' => ∃ v', e = .returned v' ∧ w'.ownsRow X.heap.size 3 1 v' l.length (ints' l) ∧ Below X.heap.size X w') := Lib.hid fun X hX => by
                  have := cloneI l Ah chd X (RepV.mono (P' := fun b => b < wl.heap.size) (fun b h => h.2.1) (fun p hp => hX.cell hp.2.1) HRQ.out) (by omega)
                  rw [hl0] at this ⊢
                  exact this
                have HZ0 : Hid (0 = l.getLastD 0 + 0) := by show _ = _; rw [hemp]; rfl
                rw [hl0] at hslot
                clear hrq hemp hl0
                go_wp2_with fail
              case' neg =>
                obtain ⟨p, hp⟩ : ∃ p, l.length = p + 1 := ⟨l.length - 1, by have := List.length_pos_iff.2 hemp; omega⟩
                obtain ⟨lb, lo, hAh, -, hcells⟩ := hrq.at (by omega)
                have HCL : Hid (∀ X, Below wl.heap.size wl X → Calls Tryd.prog 44 #[.slice Ah (p + 1) chd] X fun e w' => ∃ v', e = .returned v' ∧ w'.ownsRow X.heap.size 3 1 v' l.length (ints' l) ∧ Below X.heap.size X w') := Lib.hid fun X hX => by
                  have := cloneI l Ah chd X (RepV.mono (P' := fun b => b < wl.heap.size) (fun b h => h.2.1) (fun p hp => hX.cell hp.2.1) HRQ.out) (by omega)
                  rw [hp] at this ⊢
                  exact this
                have hck := hcells p _ (ints'_get (by omega))
                rw [lastD_get l p 0 hp] at hck
                subst hAh
                rw [hp] at hslot
                have hp4 : p ≤ 3 := by omega
                obtain ⟨f, hf⟩ : ∃ f, f = l.getLastD 0 := ⟨_, rfl⟩
                rw [← hf] at hck
                have HZ0 : Hid (f = l.getLastD 0 + 0) := hf
                clear hrq hcells hp hemp hf
                go_wp2_with fail
              all_goals
                have HLC := Lib.hid (partN_all M l)
                clear HRQ
                generalize wr = wk at *
                go_loopw [14, 18] (fun v i wp => ∃ (z d : Nat) (itd : List Iv), i = .int .i64 z ∧ z ≤ M ∧ Hid (z = l.getLastD 0 + d) ∧ itd.length ≤ itk.length + d ∧ Hid (SRow 65 1 wp wl.heap.size v itd) ∧ Hid (itd.map (·.1) = (lvlN M r q ++ partN l d).map ints') ∧ Hid (Below wl.heap.size wl wp)) (fun _ i _ => M - (intOf i).toNat)
                case atStart =>
                  have hzm0 := Nat.le_trans (Nat.le_of_eq HZ0.out) HFM.out
                  first | exact ⟨0, 0, itk, rfl, hzm0, HZ0.out, Nat.le_refl _, HRK.out, by show _ = _; rw [show partN l 0 = [] from rfl, List.append_nil]; exact HIK.out, HBK.out⟩ | exact ⟨f, 0, itk, rfl, hzm0, HZ0.out, Nat.le_refl _, HRK.out, by show _ = _; rw [show partN l 0 = [] from rfl, List.append_nil]; exact HIK.out, HBK.out⟩
                case round =>
                  obtain ⟨z, d, itd, rfl, hzM, HZ, hld, HRD, HID, HBD⟩ := hrel
                  have z1 : (0 : Int) ≤ (z : Int) := Int.natCast_nonneg _
                  have hdM : d ≤ M := by have := HZ.out; omega
                  by_cases hltz : z < M
                  · have z2 : (z : Int) < (M : Int) := by omega
                    have HPS := Lib.hid (partN_succ l d)
                    go_wp2_with fail
                    refine (HCL.out wr HBD.out).mono ?_
                    rintro e w4 ⟨v4, rfl, ho4, hb4⟩
                    obtain ⟨g5, c5, w5, hap5, ho5, hg5⟩ := row_add slInt ho4 hb4.size [.int .i64 z] rfl (ints'_one [z]) (by omega)
                    have hb45 : Below wr.heap.size wr w5 := hb4.trans hg5.below
                    have hr5 := HRD.out.below hb45
                    obtain ⟨A6, c6, hv6, hrep6⟩ := repV_own ho5
                    injection hv6 with hv61 _ hv63
                    subst hv61 hv63
                    have hpz : partN l (d + 1) = partN l d ++ [l ++ [z]] := by rw [HPS.out, ← HZ.out]
                    obtain ⟨g7, c7, w7, hap7, hr7, hg7⟩ := srow_add slInts hr5 (by have := HBD.out.size; have := hb45.size; omega) (ints' (l ++ [z]), some ⟨g5, 0, none⟩, l.length + 1, c5)
                      (by
                        have := hrep6 (fun b => wl.heap.size ≤ b ∧ b < w5.heap.size ∧ (u14 : Value).ownBlock ≠ some b) (fun b h1 h2 _ => ⟨by have := HBD.out.size; omega, h2, fun e => by have := (HRD.out.lt b e).2; omega⟩)
                        rw [show ints' (l ++ [z]) = ints' l ++ [.int .i64 z] by simp [ints']]
                        exact this) (by omega)
                    have HR7 := Lib.hid hr7
                    have HB7 := Lib.hid (HBD.out.trans ((hb45.mono HBD.out.size).trans hg7.below))
                    have HI7 : Hid ((itd ++ [((ints' (l ++ [z]), some ⟨g5, 0, none⟩, l.length + 1, c5) : Iv)]).map (·.1) = (lvlN M r q ++ partN l (d + 1)).map ints') := by
                      show _ = _
                      rw [List.map_append, HID.out, hpz, ← List.append_assoc (lvlN M r q), List.map_append (f := ints') (l₂ := [l ++ [z]])]; rfl
                    have hl7 : (itd ++ [((ints' (l ++ [z]), some ⟨g5, 0, none⟩, l.length + 1, c5) : Iv)]).length = itd.length + 1 := by simp
                    have HL7 := Lib.hid hl7
                    have HZ7 : Hid (z + 1 = l.getLastD 0 + (d + 1)) := by show _ = _; have := HZ.out; omega
                    generalize itd ++ [((ints' (l ++ [z]), some ⟨g5, 0, none⟩, l.length + 1, c5) : Iv)] = it7 at *
                    simp only [ivVal] at hap7
                    clear hb45 hr5 hrep6 ho5 hg5 ho4 hb4 hr7 hg7 HRD HID HBD hpz hl7 HZ HPS
                    go_wp2_with (at_builtin; first | refine wpList_run_append rfl _ _ rfl rfl rfl hap5 ?_ | refine wpList_run_append rfl _ _ rfl rfl rfl hap7 ?_)
                    clear hap5 hap7
                    go_roundw
                    case rel => exact ⟨z + 1, d + 1, it7, by go_num, by omega, HZ7.out, by have := HL7.out; omega, HR7.out, HI7.out, HB7.out⟩
                    case measure => simp [intOf]; omega
                  · obtain rfl : z = M := by omega
                    have hdz : d = z - l.getLastD 0 := by have := HZ.out; omega
                    have HI : Hid (itd.map (·.1) = (lvlN z r (q + 1)).map ints') := by
                      show _ = _; rw [HLS.out, ← HLC.out, ← hdz]; exact HID.out
                    obtain ⟨A14, c14, hv14⟩ := HRD.out.form
                    subst hv14
                    clear HID hdz
                    by_cases hbig : 2000 < itd.length
                    · have hcb : 2000 < cnt nn z := by
                        have h1 := congrArg List.length HI.out
                        have h2 := lvlN_le z r (q + 1)
                        rw [List.length_map, List.length_map] at h1
                        exact cnt_large (k := r + 1) (by omega) (by omega) (by omega)
                      have hLe : L = [] := by rw [HLL.out, sessL, ← HMM.out, if_pos hcb]
                      have hRe : R = 3 := by rw [HRR.out, sessE, ← HMM.out, if_pos hcb]
                      subst hLe hRe
                      have hbi : (2000 : Int) < (itd.length : Int) := by omega
                      clear HLL HRR hcb
                      go_wp2_with fail
                      go_ret2
                      exact ⟨none, 0, rfl, RepSL.nil, HL2.out.trans ((HBA.out.trans ((HBL.out.trans (HBD.out.mono HBL.out.size)).mono HBA.out.size)).mono (Nat.le_of_lt HS2.out))⟩
                    · have hbi : ¬ (2000 : Int) < (itd.length : Int) := by omega
                      go_wp2_with fail
                      go_roundw
                      case rel => exact ⟨q + 1, itd, by omega, by go_num, by omega, HRD.out, HI.out, HBD.out⟩
                      case measure => simp [intOf]; omega
            · obtain rfl : q = itl.length := by omega
              have hfull : itk.map (·.1) = (idxR M (r + 1) 0).map ints' := by
                have h1 := HIK.out
                have h2 : itl.length = (idxR M r 0).length := by rw [HLL2.out, idxR_cnt]
                rw [h2, lvlN_all] at h1; exact h1
              have hcnt : cnt (r + 1) M ≤ 2000 := by have := congrArg List.length hfull; rw [List.length_map, List.length_map, idxR_cnt] at this; omega
              have HF := Lib.hid hfull; have HCC := Lib.hid hcnt
              clear hfull hcnt
              go_wp2_with fail
              go_roundw
              case rel => exact ⟨r + 1, itk, by omega, by go_num, HRK.out.loosen HBL.out.size, HF.out, HCC.out, HBL.out.trans (HBK.out.mono HBL.out.size)⟩
              case measure => simp [intOf]; omega
        · obtain rfl : r = nn := by omega
          have hRe : R = 0 := by
            have hc' : ¬ 2000 < cnt r (allS ags bad k k).length := by rw [← HMM.out]; have := HCN.out; omega
            rw [HRR.out, sessE, if_neg hc']
          have HLE : Hid (L = (idxR M r 0).map (pickS (its.map (·.1)))) := by
            show _ = _
            have hc' : ¬ 2000 < cnt r (allS ags bad k k).length := by rw [← HMM.out]; have := HCN.out; omega
            rw [HLL.out, sessL, if_neg hc', HMM.out, HITS.out]
          subst hRe
          generalize wr = wl at *
          have HBZL := Lib.hid HBL.out
          have HALL := Lib.hid (HAL.out.below HBL.out)
          clear HLL HRR HCN HMM
          go_wp2_with fail
          go_loopw [19, 115] (fun v i wr => ∃ (q : Nat) (itss : List (List Se)) (ivs : List Iv), q ≤ itl.length ∧ i = .int .i64 q ∧ ivs.length = q ∧ Hid (SRow 58 2 wr wl.heap.size v ivs) ∧ Hid (ivs.map (·.1) = itss.map (·.flatMap seCells)) ∧
              Hid (itss.map (·.map (·.1)) = ((idxR M r 0).take q).map (pickS (its.map (·.1)))) ∧ Hid (∀ l ∈ itss, ∀ x ∈ l, RepN wr (fun b => wl.heap.size ≤ b ∧ b < wr.heap.size ∧ v.ownBlock ≠ some b) x.1.2 x.2.1 x.2.2) ∧ Hid (Below wl.heap.size wl wr)) (fun _ i _ => itl.length - (intOf i).toNat)
          case atStart => exact ⟨0, [], [], Nat.zero_le _, rfl, rfl, SRow.nil _ _ _ _, rfl, rfl, fun l h => by simp at h, Below.refl _ _⟩
          case round =>
            obtain ⟨q, itss, ivs, hq, rfl, hvl, HRO, HIO, HIS, HRS, HBO⟩ := hrel
            have q1 : (0 : Int) ≤ (q : Int) := Int.natCast_nonneg _
            by_cases hltq : q < itl.length
            · have q2 : (q : Int) < (itl.length : Int) := by omega
              have hqi : q < (idxR M r 0).length := by rw [idxR_cnt]; have := HLL2.out; omega
              obtain ⟨g13, c13', hA13, hslot⟩ := (HRL.out.below HBO.out).slot q hltq
              have hrp := HRL.out.reps itl[q] (List.getElem_mem hltq)
              have hx : itl[q].1 = ints' (idxR M r 0)[q] := by
                have := congrArg (·[q]?) HIL.out
                simpa [hltq, hqi] using this
              have hls : ((idxR M r 0).take (q + 1)).map (pickS (its.map (·.1))) = ((idxR M r 0).take q).map (pickS (its.map (·.1))) ++ [pickS (its.map (·.1)) (idxR M r 0)[q]] := by
                rw [List.take_succ_eq_append_getElem hqi, List.map_append]; rfl
              obtain ⟨hlen, hmem⟩ := mem_idxR M r 0 (idxR M r 0)[q] (List.getElem_mem hqi)
              obtain ⟨l, hl⟩ : ∃ l, l = (idxR M r 0)[q] := ⟨_, rfl⟩
              rw [← hl] at hx hls hlen hmem
              obtain ⟨X, hX⟩ : ∃ X, X = itl[q] := ⟨_, rfl⟩
              rw [← hX] at hslot hrp hx
              clear hX hl
              obtain ⟨vs, Ah, nh, chd⟩ := X
              simp only at hx hrp
              subst hx
              have hnh : nh = l.length := by have := hrp.1; rw [Nat.mul_one, ints', List.length_map] at this; exact this.symm
              subst hnh
              injection hA13 with hA131 _ hA133
              subst hA131 hA133
              simp only [ivVal] at hslot
              have HRI : Hid (RepV wr (fun b => b < wl.heap.size) 1 (ints' l) Ah l.length chd) := Lib.hid (RepV.mono (fun b h => h.2.1) (fun p hp => HBO.out.cell hp.2.1) hrp)
              have HLS := Lib.hid hls; have HMEM := Lib.hid hmem
              have hl4 : l.length ≤ 4 := by omega
              clear hrp hls hlen hmem
              go_wp2_with fail
              generalize wr = wo at *
              go_loopw [22, 121] (fun v i wq => ∃ (m : Nat) (itx : List Se), m ≤ l.length ∧ i = .int .i64 m ∧ itx.length = m ∧ Hid (SeRow wq wo.heap.size v itx) ∧ Hid (itx.map (·.1) = pickS (its.map (·.1)) (l.take m)) ∧ Hid (Below wo.heap.size wo wq)) (fun _ i _ => l.length - (intOf i).toNat)
              case atStart => exact ⟨0, [], Nat.zero_le _, rfl, rfl, SeRow.nil _ _, rfl, Below.refl _ _⟩
              case round =>
                obtain ⟨m, itx, hm, rfl, hxl, HRQ, HIQ, HBQ⟩ := hrel
                have m1 : (0 : Int) ≤ (m : Int) := Int.natCast_nonneg _
                by_cases hltm : m < l.length
                · have m2 : (m : Int) < (l.length : Int) := by omega
                  obtain ⟨lb, lo, hAh, hlb, hcells⟩ := HRI.out.at (by omega)
                  have hck := hcells m _ (ints'_get hltm)
                  have hck' := (HBQ.out.cell (p := ⟨lb, lo + m, none⟩) (by have := HBO.out.size; show lb < wo.heap.size; omega)).trans hck
                  have hiM := HMEM.out l[m] (List.getElem_mem hltm)
                  have hps : pickS (its.map (·.1)) (l.take (m + 1)) = pickS (its.map (·.1)) (l.take m) ++ [(its.map (·.1)).getD l[m] (0, [])] := by
                    unfold pickS; rw [List.take_succ_eq_append_getElem hltm, List.map_append]; rfl
                  obtain ⟨i, hi⟩ : ∃ i, i = l[m] := ⟨_, rfl⟩
                  rw [← hi] at hck' hiM hps
                  have hiI : i < its.length := by have := HMN.out; omega
                  have HALO := HALL.out.below HBO.out
                  obtain ⟨ga, hga, hc0, hc1⟩ := HALO.slot i hiI
                  have hrn := HALO.reps its[i] (List.getElem_mem hiI)
                  have hgd : (its.map (·.1)).getD i (0, []) = its[i].1 := by simp [List.getD, hiI]
                  rw [hgd] at hps
                  have hsl : its[i].1.2.length ≤ 4 := by
                    have h1 : its[i].1 ∈ allS ags bad k k := by rw [← HITS.out]; exact List.mem_map_of_mem (List.getElem_mem hiI)
                    have := mem_allS h1; omega
                  obtain ⟨S, hS⟩ : ∃ S, S = its[i] := ⟨_, rfl⟩
                  rw [← hS] at hc0 hc1 hrn hps hsl
                  subst hga hAh
                  have HRN : Hid (RepN wo (fun b => b < wo.heap.size) S.1.2 S.2.1 S.2.2) := Lib.hid (hrn.mono (fun b h => h.2.1) (fun _ _ => rfl))
                  have HPS := Lib.hid hps; have HSL := Lib.hid hsl; have HXL := Lib.hid (show itx.length ≤ 4 by omega)
                  have i1' : (0 : Int) ≤ (i : Int) := Int.natCast_nonneg _
                  have i2' : (i : Int) < (M : Int) := by omega
                  have hMi : i < M := hiM
                  clear hrn hps hsl hcells hck hgd hS hi HALO
                  go_wp2_with fail
                  refine wp_region_mix4 (fun _ => True) (fun Y => Below wo.heap.size wo Y) [] (.held 0 (.held 1 (.held 2 (.held 3 (.held 4 (.held 5 (.held 6 (.held 7 (.held 8 (.held 9 (.held 10 (.op 11 (.held 12 (.op 13 (.op 14 (.held 15 .nil)))))))))))))))) mixed (by kernel_rfl) ?_
                  have HBD0 : Hid (Below wo.heap.size wo wr.drew) := Lib.hid (HBQ.out.drew)
                  have HDQ : Hid (Below wr.heap.size wr wr.drew) := Lib.hid ((Below.refl _ _).drew)
                  have HRX := Lib.hid (HRQ.out.below HDQ.out)
                  clear HRQ HBQ HDQ
                  generalize wr.drew = D at *
                  refine mix4_take (v := u22) rfl rfl rfl (fun _ _ _ h => h) trivial HBD0.out (fun Y _ hY => by
                    (try simp only [Act.put]); go_simp) ?_
                  refine mix4_take (v := .slice (some ⟨ga, 0, none⟩) M cl) rfl rfl rfl (fun _ _ _ h => h) trivial HBD0.out (fun Y _ hY => by
                    (try simp only [Act.put]); go_simp) ?_
                  refine mix4_take (v := .int .i64 i) rfl rfl rfl (fun _ _ _ h => h) trivial HBD0.out (fun Y _ hY => by
                    (try simp only [Act.put]); go_simp) ?_
                  refine mix4_take (v := .pointer (some ⟨ga, i * 2, none⟩)) rfl rfl rfl (fun _ _ _ h => h) trivial HBD0.out (fun Y _ hY => by
                    (try simp only [Act.put]); go_simp) ?_
                  (try simp only [Act.put, List.setIfInBounds_toArray, List.set_cons_succ, List.set_cons_zero, List.getElem_toArray, List.getElem_cons_succ, List.getElem_cons_zero])
                  refine mix4_take (v := .pointer (some ⟨ga, i * 2, none⟩)) rfl rfl rfl (fun _ _ _ h => h) trivial HBD0.out (fun Y _ hY => by
                    (try simp only [Act.put]); go_simp) ?_
                  refine mix4_take (v := .int .i64 S.1.1) rfl rfl rfl (fun _ _ _ h => h) trivial HBD0.out (fun Y _ hY => by
                    have z0 := (hY.cell (World.block_lt hc0)).trans hc0
                    have z1 := (hY.cell (World.block_lt hc1)).trans hc1
                    clear hc0 hc1 hY
                    (try simp only [Act.put]); go_simp) ?_
                  (try simp only [Act.put, List.setIfInBounds_toArray, List.set_cons_succ, List.set_cons_zero, List.getElem_toArray, List.getElem_cons_succ, List.getElem_cons_zero])
                  refine mix4_take (v := .slice (some ⟨ga, 0, none⟩) M cl) rfl rfl rfl (fun _ _ _ h => h) trivial HBD0.out (fun Y _ hY => by
                    (try simp only [Act.put]); go_simp) ?_
                  refine mix4_take (v := .int .i64 i) rfl rfl rfl (fun _ _ _ h => h) trivial HBD0.out (fun Y _ hY => by
                    (try simp only [Act.put]); go_simp) ?_
                  refine mix4_take (v := .pointer (some ⟨ga, i * 2, none⟩)) rfl rfl rfl (fun _ _ _ h => h) trivial HBD0.out (fun Y _ hY => by
                    (try simp only [Act.put]); go_simp) ?_
                  (try simp only [Act.put, List.setIfInBounds_toArray, List.set_cons_succ, List.set_cons_zero, List.getElem_toArray, List.getElem_cons_succ, List.getElem_cons_zero])
                  refine mix4_take (v := .pointer (some ⟨ga, i * 2 + 1, none⟩)) rfl rfl rfl (fun _ _ _ h => h) trivial HBD0.out (fun Y _ hY => by
                    (try simp only [Act.put]); go_simp) ?_
                  refine mix4_take (v := .slice S.2.1 S.1.2.length S.2.2) rfl rfl rfl (fun _ _ _ h => h) trivial HBD0.out (fun Y _ hY => by
                    have z0 := (hY.cell (World.block_lt hc0)).trans hc0
                    have z1 := (hY.cell (World.block_lt hc1)).trans hc1
                    clear hc0 hc1 hY
                    (try simp only [Act.put]); go_simp) ?_
                  (try simp only [Act.put, List.setIfInBounds_toArray, List.set_cons_succ, List.set_cons_zero, List.getElem_toArray, List.getElem_cons_succ, List.getElem_cons_zero])
                  refine mix4_op rfl rfl (fun K hK => ?_)
                  have HCL := Lib.hid (cloneN S.1.2 S.2.1 S.2.2 D (HRN.out.mono (P' := fun b => b < wo.heap.size) (fun b h => h) (fun p hp => HBD0.out.cell hp)) (by have := HSL.out; omega))
                  go_wp2_with fail
                  refine HCL.out.mono ?_; clear HCL
                  rintro e w4 ⟨v4, rfl, ho4, hb4⟩
                  have HB4 := Lib.hid (HBD0.out.trans (hb4.mono HBD0.out.size))
                  refine hK _ _ ⟨⟨fun _ => trivial, HB4.out⟩, ?_⟩
                  clear hK K
                  obtain ⟨A4, c4, hv4, hrep4⟩ := repV_own ho4
                  subst hv4
                  have hn4 : RepN w4 (fun b => D.heap.size ≤ b ∧ b < w4.heap.size) S.1.2 A4 c4 := ((hrep4 (fun b => D.heap.size ≤ b ∧ b < w4.heap.size) (fun b h1 h2 _ => ⟨h1, h2⟩)).toN HRN.out.2.2.1).2
                  have HR4 := Lib.hid (HRX.out.below hb4)
                  have hn4' : RepN w4 (fun b => wo.heap.size ≤ b ∧ b < w4.heap.size ∧ u22.ownBlock ≠ some b) S.1.2 A4 c4 := hn4.mono (fun b h => ⟨by have := HBD0.out.size; omega, h.2, fun e => by have := (HRX.out.lt b e).2; omega⟩) (fun _ _ => rfl)
                  obtain ⟨g5, c5, w5, hap5, hr5, hg5⟩ := serow_add HR4.out HB4.out.size (S.1, A4, c4) hn4' (by have := HXL.out; omega)
                  have HR5 := Lib.hid hr5; have HB5 := Lib.hid (HB4.out.trans hg5.below)
                  have HAP5 := Lib.hid hap5
                  clear ho4 hb4 hrep4 hn4 hn4' hr5 hg5 hap5 HRX HR4
                  (try simp only [Act.put, List.setIfInBounds_toArray, List.set_cons_succ, List.set_cons_zero, List.getElem_toArray, List.getElem_cons_succ, List.getElem_cons_zero])
                  refine mix4_take (v := .agg #[.int .i64 S.1.1, .slice A4 S.1.2.length c4]) rfl rfl rfl (fun _ _ _ h => h) trivial HB4.out (fun Y _ hY => by
                    (try simp only [Act.put]); go_simp) ?_
                  (try simp only [Act.put, List.setIfInBounds_toArray, List.set_cons_succ, List.set_cons_zero, List.getElem_toArray, List.getElem_cons_succ, List.getElem_cons_zero])
                  refine mix4_op rfl rfl (fun K hK => ?_)
                  go_wp2_with fail
                  refine ⟨⟨fun _ => trivial, HB4.out.alloc HB4.out.size _⟩, ?_⟩
                  (try simp only [Act.put, List.setIfInBounds_toArray, List.set_cons_succ, List.set_cons_zero, List.getElem_toArray, List.getElem_cons_succ, List.getElem_cons_zero])
                  refine mix4_op rfl rfl (fun K hK => ?_)
                  refine wp_run_append (.tmp 125) (.tmp 138) (by rfl) (by rfl) (by rfl) HAP5.out ?_
                  refine hK _ _ ⟨⟨fun _ => trivial, HB5.out⟩, ?_⟩
                  clear hK K HAP5 HB4
                  (try simp only [Act.put, List.setIfInBounds_toArray, List.set_cons_succ, List.set_cons_zero, List.getElem_toArray, List.getElem_cons_succ, List.getElem_cons_zero])
                  refine mix4_take (v := .slice (some ⟨g5, 0, none⟩) (itx.length + 1) c5) rfl rfl rfl (fun _ _ _ h => h) trivial HB5.out (fun Y _ hY => by
                    (try simp only [Act.put]); go_simp) ?_
                  (try simp only [Act.put, List.setIfInBounds_toArray, List.set_cons_succ, List.set_cons_zero, List.getElem_toArray, List.getElem_cons_succ, List.getElem_cons_zero])
                  refine mix4_nil ?_
                  go_wp2_with fail
                  go_roundw
                  case rel =>
                    exact ⟨m + 1, itx ++ [(S.1, A4, c4)], by omega, by go_num, by simp; omega, by exact HR5.out, by show _ = _; rw [List.map_append, HIQ.out, HPS.out]; rfl, HB5.out⟩
                  case measure => simp [intOf]; omega
                · obtain rfl : m = l.length := by omega
                  obtain ⟨Ax, cx, hvx⟩ := HRQ.out.form
                  subst hvx
                  have hpk : itx.map (·.1) = pickS (its.map (·.1)) l := by have := HIQ.out; rwa [List.take_length] at this
                  obtain ⟨A6, c6, hv6, hrep6⟩ := repV_own HRQ.out.own
                  injection hv6 with hv61 _ hv63
                  subst hv61 hv63
                  have hqi2 : ivs.length + 1 ≤ 1000000 := by omega
                  obtain ⟨g7, c7, w7, hap7, hr7, hg7⟩ := srow_add slSes (HRO.out.below HBQ.out) (by have := HBO.out.size; have := HBQ.out.size; omega) (itx.flatMap seCells, Ax, itx.length, cx)
                    (hrep6 (fun b => wl.heap.size ≤ b ∧ b < wr.heap.size ∧ (u19 : Value).ownBlock ≠ some b) (fun b h1 h2 _ => ⟨by have := HBO.out.size; omega, h2, fun e => by have := (HRO.out.lt b e).2; omega⟩)) hqi2
                  have HR7 := Lib.hid hr7
                  have HB7 := Lib.hid (HBO.out.trans ((HBQ.out.mono HBO.out.size).trans hg7.below))
                  have hold : ∀ (y : Se), (RepN wr (fun b => wl.heap.size ≤ b ∧ b < wr.heap.size ∧ (u19 : Value).ownBlock ≠ some b) y.1.2 y.2.1 y.2.2) → RepN w7 (fun b => wl.heap.size ≤ b ∧ b < w7.heap.size ∧ (Value.slice (some ⟨g7, 0, none⟩) (ivs.length + 1) c7).ownBlock ≠ some b) y.1.2 y.2.1 y.2.2 := fun y h => by
                    refine h.mono ?_ ?_
                    · rintro b ⟨h1, h2, h3⟩
                      refine ⟨h1, Nat.lt_of_lt_of_le h2 hg7.size, fun e => ?_⟩
                      rcases hg7.own with h | h
                      · exact h3 (by rw [← h]; exact e)
                      · have := h b e; omega
                    · rintro p ⟨h1, h2, h3⟩
                      exact World.cell?_of_block (hg7.old p.block h2 h3)
                  have hrs7 : ∀ l' ∈ itss ++ [itx], ∀ x ∈ l', RepN w7 (fun b => wl.heap.size ≤ b ∧ b < w7.heap.size ∧ (Value.slice (some ⟨g7, 0, none⟩) (ivs.length + 1) c7).ownBlock ≠ some b) x.1.2 x.2.1 x.2.2 := fun l' hl' x hx => by
                    rcases List.mem_append.1 hl' with h | h
                    · exact hold x ((HRS.out l' h x hx).mono (fun b ⟨h1, h2, h3⟩ => ⟨h1, by have := HBQ.out.size; omega, h3⟩) (fun p ⟨_, h2, _⟩ => HBQ.out.cell h2))
                    · rw [List.mem_singleton.1 h] at hx
                      exact hold x ((HRQ.out.reps x hx).mono (fun b ⟨h1, h2, _⟩ => ⟨by have := HBO.out.size; omega, h2, fun e => by have := (HRO.out.lt b e).2; omega⟩) (fun _ _ => rfl))
                  have HRS7 := Lib.hid hrs7
                  have HI7 : Hid ((ivs ++ [((itx.flatMap seCells, Ax, itx.length, cx) : Iv)]).map (·.1) = (itss ++ [itx]).map (·.flatMap seCells)) := by
                    show _ = _; rw [List.map_append, HIO.out, List.map_append (l₂ := [itx])]; rfl
                  have HJ7 : Hid ((itss ++ [itx]).map (·.map (·.1)) = ((idxR M r 0).take (q + 1)).map (pickS (its.map (·.1)))) := by
                    show _ = _; rw [List.map_append, HIS.out, HLS.out, List.map_cons, hpk]; rfl
                  have hv7 : (ivs ++ [((itx.flatMap seCells, Ax, itx.length, cx) : Iv)]).length = q + 1 := by simp; omega
                  have HV7 := Lib.hid hv7
                  have hxl2 : itx.length = l.length := by omega
                  simp only [ivVal, hxl2] at hap7
                  have hxc : ivs.length = q := hvl
                  generalize ivs ++ [((itx.flatMap seCells, Ax, itx.length, cx) : Iv)] = iv7 at *
                  generalize itss ++ [itx] = it7 at *
                  have HXC := Lib.hid hxc
                  have HXL2 := Lib.hid hxl2
                  clear hxl2
                  clear hr7 hg7 hold hrs7 hpk hrep6 HRQ HIQ HBQ HRO HBO HRS HIO HIS hv7 hxc hvl
                  go_wp2_with (at_builtin; refine wpList_run_append rfl _ _ rfl rfl rfl hap7 ?_)
                  clear hap7
                  go_roundw
                  case rel => exact ⟨q + 1, it7, iv7, by omega, by go_num, HV7.out, by exact HR7.out, HI7.out, HJ7.out, HRS7.out, HB7.out⟩
                  case measure => simp [intOf]; omega
            · obtain rfl : q = itl.length := by omega
              have hfull : itss.map (·.map (·.1)) = L := by
                have h1 := HIS.out
                have h2 : itl.length = (idxR M r 0).length := by rw [HLL2.out, idxR_cnt]
                rw [h2, List.take_length] at h1
                rw [h1, HLE.out]
              obtain ⟨Ao, co, hvo, hrepo⟩ := repV_own HRO.out.own
              subst hvo
              have hLl : L.length = ivs.length := by
                have h1 := congrArg List.length hfull
                have h2 := congrArg List.length HIO.out
                simp only [List.length_map] at h1 h2
                omega
              have hsl : RepSL wr (fun b => b < wr.heap.size) L Ao co := by
                refine ⟨itss, ivs, HIO.out, hfull, fun x hx => RepV.mono (fun b h => h.2.1) (fun _ _ => rfl) (HRO.out.reps x hx), fun l hl x hx => RepN.mono (fun b h => h.2.1) (fun _ _ => rfl) (HRS.out l hl x hx), ?_⟩
                rw [hLl]
                exact hrepo _ (fun b _ h _ => h)
              have HSL := Lib.hid hsl; have HLl := Lib.hid hLl
              have HBF := Lib.hid (HL2.out.trans ((HBA.out.trans ((HBL.out.trans (HBO.out.mono HBL.out.size)).mono HBA.out.size)).mono (Nat.le_of_lt HS2.out)))
              clear hfull hrepo hsl hLl HRO HIO HIS HRS
              go_wp2_with fail
              go_ret2
              exact ⟨Ao, co, by rw [HLl.out]; rfl, HSL.out, HBF.out⟩
end Go.Proofs.YtpjmdilpldaapaaDoor
