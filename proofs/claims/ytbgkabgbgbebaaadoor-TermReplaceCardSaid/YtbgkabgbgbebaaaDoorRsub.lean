/- The reference's Subterms, kind, Vars and Atoms. -/
import Derived.Test.YtbgkabgbgbebaaaDoorAdd
namespace Go.Proofs.YtbgkabgbgbebaaaDoor
open Go.RowKit Go.Sort

set_option maxHeartbeats 2000000 in
set_option maxRecDepth 100000 in
theorem rsubterms_any (l : List Tm) (A : Option Addr) (cap : Nat) (w : World) (B : Nat) (hB : B ≤ w.heap.size) (hn : Tm.sizes l ≤ 1000000) (hrep : RepS w (fun b => b < B) l A cap) :
    Calls Tryd.prog 28 #[.slice A l.length cap] w (ListOf w B (Tm.set (Tm.alls l))) := by
  obtain ⟨hr1, hr2, hr4⟩ := hrep
  have hls := Tm.length_le_sizes l
  go_enter Tryd.func28, Tryd.ntmps28
  go_wp2_with fail
  go_loopw [3, 4] (fun v i wr => ∃ (k m c : Nat) (A' : Option Addr) (its : List It), k ≤ l.length ∧ i = .int .i64 k ∧ v = .slice A' m c ∧ Hid (RowT wr w.heap.size (fun b => b < B) (.slice A' m c) its) ∧
      Hid (its.map (·.1) = Tm.alls (l.take k)) ∧ Hid (Below w.heap.size w wr))
    (fun _ i _ => l.length - (intOf i).toNat)
  case atStart => exact ⟨0, 0, 0, none, [], Nat.zero_le _, rfl, rfl, RowT.nil _ _ _, by simp [Tm.alls, Hid], Below.refl _ _⟩
  case round =>
    obtain ⟨k, m, c, A', its, hk, rfl, rfl, HR, HM, HBW⟩ := hrel
    have HML : Hid (m = its.length ∧ m = Tm.sizes (l.take k)) := by
      have h2 := congrArg List.length HM.out
      rw [List.length_map, Tm.alls_length] at h2
      exact ⟨HR.out.len, by rw [HR.out.len]; exact h2⟩
    by_cases hlt : k < l.length
    · rcases hr4 with rfl | ⟨b, off, rfl, hbB, hl⟩
      · simp at hlt
      have hlw : RepL wr B l b off := RepL.below hl (HBW.out.mono hB) hbB
      obtain ⟨Ak, ck, h0, h1, h2, h3, h5⟩ := RepLP.get hlw k hlt
      have hsg := Tm.sizes_get l k hlt
      have htk := Tm.sizes_take_succ l k hlt
      have htl := Tm.sizes_take_le l (k + 1)
      have hsw := HBW.out.size
      have HC := Lib.hid (rall_any 1000000 l[k] Ak ck wr B (by omega) (Nat.le_refl _) (by omega) h5)
      clear h5 hlw
      simp only [Tm.val] at HC
      go_wp2_with fail
      refine HC.out.mono ?_
      rintro e w1 ⟨A2, c2, m2, its2, rfl, hm2, hrow2, hbel2, hmap2⟩
      rw [Tm.all_length] at hm2
      have hsp := l[k].size_pos
      obtain ⟨g2, rfl⟩ := hrow2.some (by omega)
      have hs1 := hbel2.size
      have hm0 := HML.out.2
      obtain ⟨A3, c3, w2, hap, hrow3, hgr3, _⟩ := (HR.out.below hbel2).more (fun b h => by omega) (by omega) g2 0 c2 m2 its2 hrow2.len hrow2.cells
        (fun x hx => RepP.mono (fun b h => h.1) (fun _ _ => rfl) _ _ _ (hrow2.reps x hx)) (by rw [← HML.out.1]; omega)
      rw [← HML.out.1] at hap hrow3
      have hb3 : Below w.heap.size w w2 := below_of_grown (HBW.out.trans (hbel2.mono hsw)) (by omega) hgr3 (fun q hq => (HR.out.lt q hq).1)
      have hm3 : (its ++ its2).map (·.1) = Tm.alls (l.take (k + 1)) := by
        show (its ++ its2).map (·.1) = _
        rw [List.map_append, HM.out, hmap2, Tm.alls_take_succ l k hlt]
      have HR3 := Lib.hid hrow3; clear hrow3
      have HB3 := Lib.hid hb3; clear hb3
      have HM3 := Lib.hid hm3; clear hm3
      clear hrow2 hbel2 hmap2 hgr3 hm2 hm0
      go_wp2_with (at_builtin; refine wpList_run_append rfl _ _ rfl rfl rfl hap ?_)
      go_roundw
      case rel => exact ⟨k + 1, _, c3, A3, _, by omega, by go_num, rfl, HR3.out, HM3.out, HB3.out⟩
      case measure => simp [intOf]; omega
    · obtain rfl : k = l.length := by omega
      have hm : its.map (·.1) = Tm.alls l := by rw [HM.out, List.take_length]
      have hml : m ≤ 1000000 := by have := HML.out.2; rw [List.take_length] at this; omega
      have hS := set_any its w.heap.size A' m c wr B (by have := HBW.out.size; omega) HR.out hml (fun x hx => Nat.le_trans (Tm.mem_alls_size l x.1 (by rw [← hm]; exact List.mem_map_of_mem hx)) hn)
      rw [hm] at hS
      have HS := Lib.hid (hS.mono fun _ _ h => h.loosen HBW.out); clear hS hm
      clear hr4
      go_wp2_with fail
      refine HS.out.mono ?_
      rintro e w2 ⟨A2, c2, n2, its2, rfl, hs⟩
      have HS2 := Lib.hid hs; clear hs
      go_wp2_with fail
      go_ret
      exact ⟨A2, c2, n2, its2, rfl, HS2.out⟩

set_option maxHeartbeats 2000000 in
set_option maxRecDepth 100000 in
theorem rkind_any (t : Tm) (A : Option Addr) (cap : Nat) (kd : Int) (w : World) (B : Nat) (hB : B ≤ w.heap.size) (hn : t.size ≤ 1000000) (hrep : RepT w B t A cap) :
    Calls Tryd.prog 58 #[t.val A cap, .int .i64 kd] w (ListOf w B (Tm.set (t.all.filter fun u => u.kind == kd))) := by
  obtain ⟨W0, hW0⟩ : ∃ W0, W0 = w.alloc (.cells #[.int .i64 t.kind, .string t.name, .int .i64 t.sort, .slice A t.kids.length cap] 24) := ⟨_, rfl⟩
  have hb0 : Below w.heap.size w W0 := by rw [hW0]; exact below1 (Nat.le_refl _) _
  have hs0 : W0.heap.size = w.heap.size + 1 := by rw [hW0]; simp
  have hC := rall_any 1000000 t A cap W0 B hn (Nat.le_refl _) (by omega) (RepP.mono (fun _ h => h) (fun p hp => (hb0.mono hB).cell hp) _ _ _ hrep)
  rw [hW0] at hC
  have HC := Lib.hid hC; clear hC hrep
  have HB0 := Lib.hid hb0; clear hb0
  have HS0 := Lib.hid hs0; clear hs0
  have HW0 := Lib.hid hW0; clear hW0
  simp only [Tm.val] at HC ⊢
  go_enter Tryd.func58, Tryd.ntmps58
  go_wp2_with fail
  refine HC.out.mono ?_
  rw [← HW0.out]
  rintro e w1 ⟨A1, c1, n1, its1, rfl, hn1, hr1, hb1, hm1⟩
  have hn2 : n1 = t.size := by rw [hn1, Tm.all_length]
  have hn3 : n1 ≤ 1000000 := by omega
  have hp := t.size_pos
  obtain ⟨g1, rfl⟩ := hr1.some (by omega)
  have hbw : Below w.heap.size w w1 := HB0.out.trans (hb1.mono (by have := HS0.out; omega))
  have HR1 := Lib.hid hr1; clear hr1
  have HBW := Lib.hid hbw; clear hbw hb1
  have HM1 := Lib.hid hm1; clear hm1 hn1 hn2 hp
  have HL1 : Hid (n1 = its1.length) := HR1.out.len
  clear HC HB0 HW0
  go_wp2_with fail
  go_loopw [5, 7] (fun v i wr => ∃ (k m c : Nat) (A' : Option Addr) (its : List It), k ≤ n1 ∧ i = .int .i64 k ∧ v = .slice A' m c ∧ m ≤ k ∧ Hid (RowT wr w1.heap.size (fun b => b < B) (.slice A' m c) its) ∧
      Hid (its.map (·.1) = ((its1.take k).map (·.1)).filter fun u => u.kind == kd) ∧ Hid (Below w1.heap.size w1 wr))
    (fun _ i _ => n1 - (intOf i).toNat)
  case atStart => exact ⟨0, 0, 0, none, [], Nat.zero_le _, rfl, rfl, Nat.le_refl _, RowT.nil _ _ _, by simp [Hid], Below.refl _ _⟩
  case round =>
    obtain ⟨k, m, c, A', its, hk, rfl, rfl, hmk, HR, HM, HB⟩ := hrel
    have HML : Hid (m = its.length) := HR.out.len
    have HBS : Hid (B ≤ w1.heap.size) := by have := HBW.out.size; exact (by omega : B ≤ w1.heap.size)
    by_cases hlt : k < n1
    · have hki : k < its1.length := by have := HL1.out; omega
      have hrowk := HR1.out.below HB.out
      obtain ⟨a0, a1, a2, a3, _⟩ := hrowk.slot HL1.out k hki
      have hss := HB.out.size
      have hts : ((its1.take (k + 1)).map (·.1)).filter (fun u : Tm => u.kind == kd) = ((its1.take k).map (·.1)).filter (fun u => u.kind == kd) ++ [its1[k].1].filter (fun u => u.kind == kd) := by
        rw [List.take_succ_eq_append_getElem hki, List.map_append, List.filter_append]; rfl
      have hxr : RepP wr (fun b => b < B) its1[k].1 its1[k].2.1 its1[k].2.2 := RepP.mono (fun _ h => h.1) (fun _ _ => rfl) _ _ _ (hrowk.reps _ (List.getElem_mem hki))
      have HTS := Lib.hid hts; clear hts
      generalize its1[k] = x at *
      obtain ⟨A2, c2, w2, hap, hr2, hg2⟩ := HR.out.more1 (fun b h => by have := HBS.out; omega) (by omega) x hxr (by have := HML.out; omega)
      rw [← HML.out] at hap hr2
      have hb2 : Below w1.heap.size w1 w2 := below_of_grown (HB.out.trans (below1 hss _)) (by simp; omega) hg2 (fun q hq => (HR.out.lt q hq).1)
      have HR2 := Lib.hid hr2; clear hr2
      have HB2 := Lib.hid hb2; clear hb2 hrowk hxr hg2
      by_cases hkd : x.1.kind = kd
      · have hkb : (x.1.kind == kd) = true := by simpa using hkd
        have HK := Lib.hid hkd; clear hkd
        go_wp2_with (at_builtin; refine wpList_run_append rfl _ _ rfl rfl rfl hap ?_)
        go_roundw
        case rel => exact ⟨k + 1, _, c2, A2, _, by omega, by go_num, rfl, by omega, HR2.out, (by rw [List.map_append, HTS.out, HM.out]; simp [hkb] : (its ++ [x]).map (·.1) = _), HB2.out⟩
        case measure => simp [intOf]; omega
      · have hkb : (x.1.kind == kd) = false := by simpa using hkd
        have HK := Lib.hid hkd; clear hkd
        go_wp2_with fail
        go_roundw
        case rel => exact ⟨k + 1, m, c, A', its, by omega, by go_num, rfl, by omega, HR.out, (by rw [HTS.out, HM.out]; simp [hkb] : its.map (·.1) = _), HB.out⟩
        case measure => simp [intOf]; omega
    · obtain rfl : k = n1 := by omega
      have hm : its.map (·.1) = t.all.filter fun u => u.kind == kd := by rw [HM.out, List.take_of_length_le (by have := HL1.out; omega), HM1.out]
      have hS := set_any its w1.heap.size A' m c wr B (by have := HB.out.size; have := HBS.out; omega) HR.out (by omega) (fun x hx => by
        have h1 : x.1 ∈ t.all.filter fun u => u.kind == kd := by rw [← hm]; exact List.mem_map_of_mem hx
        exact Nat.le_trans (Tm.mem_all_size t x.1 (List.mem_filter.1 h1).1) hn)
      rw [hm] at hS
      have hbb : Below w.heap.size w wr := HBW.out.trans (HB.out.mono HBW.out.size)
      have HS := Lib.hid (hS.mono fun _ _ h => h.loosen hbb); clear hS hm hbb
      go_wp2_with fail
      refine HS.out.mono ?_
      rintro e w2 ⟨A2, c2, n2, its2, rfl, hs⟩
      have HS2 := Lib.hid hs; clear hs
      go_wp2_with fail
      go_ret
      exact ⟨A2, c2, n2, its2, rfl, HS2.out⟩

theorem rvars_any (t : Tm) (A : Option Addr) (cap : Nat) (w : World) (B : Nat) (hB : B ≤ w.heap.size) (hn : t.size ≤ 1000000) (hrep : RepT w B t A cap) :
    Calls Tryd.prog 30 #[t.val A cap] w (ListOf w B (Tm.set (t.all.filter fun u => u.kind == 1))) := by
  have hb0 : Below w.heap.size w (w.alloc (.cells #[.int .i64 t.kind, .string t.name, .int .i64 t.sort, .slice A t.kids.length cap] 24)) := below1 (Nat.le_refl _) _
  have hK := rkind_any t A cap 1 (w.alloc (.cells #[.int .i64 t.kind, .string t.name, .int .i64 t.sort, .slice A t.kids.length cap] 24)) B (by simp; omega) hn (RepP.mono (fun _ h => h) (fun p hp => (hb0.mono hB).cell hp) _ _ _ hrep)
  have HK := Lib.hid (hK.mono fun _ _ h => h.loosen hb0); clear hK hrep hb0
  simp only [Tm.val] at HK ⊢
  go_enter Tryd.func30, Tryd.ntmps30
  go_wp2_with fail
  refine HK.out.mono ?_
  rintro e w2 ⟨A2, c2, n2, its2, rfl, hs⟩
  have HS2 := Lib.hid hs; clear hs
  go_wp2_with fail
  go_ret
  exact ⟨A2, c2, n2, its2, rfl, HS2.out⟩
theorem ratoms_any (t : Tm) (A : Option Addr) (cap : Nat) (w : World) (B : Nat) (hB : B ≤ w.heap.size) (hn : t.size ≤ 1000000) (hrep : RepT w B t A cap) :
    Calls Tryd.prog 32 #[t.val A cap] w (ListOf w B (Tm.set (t.all.filter fun u => u.kind == 2))) := by
  have hb0 : Below w.heap.size w (w.alloc (.cells #[.int .i64 t.kind, .string t.name, .int .i64 t.sort, .slice A t.kids.length cap] 24)) := below1 (Nat.le_refl _) _
  have hK := rkind_any t A cap 2 (w.alloc (.cells #[.int .i64 t.kind, .string t.name, .int .i64 t.sort, .slice A t.kids.length cap] 24)) B (by simp; omega) hn (RepP.mono (fun _ h => h) (fun p hp => (hb0.mono hB).cell hp) _ _ _ hrep)
  have HK := Lib.hid (hK.mono fun _ _ h => h.loosen hb0); clear hK hrep hb0
  simp only [Tm.val] at HK ⊢
  go_enter Tryd.func32, Tryd.ntmps32
  go_wp2_with fail
  refine HK.out.mono ?_
  rintro e w2 ⟨A2, c2, n2, its2, rfl, hs⟩
  have HS2 := Lib.hid hs; clear hs
  go_wp2_with fail
  go_ret
  exact ⟨A2, c2, n2, its2, rfl, HS2.out⟩
end Go.Proofs.YtbgkabgbgbebaaaDoor
