/- The reference's pieces, walked. -/
import Derived.Test.YtipmibjhlpnhjaaGreatDoorSrpieces
namespace Go.Proofs.YtipmibjhlpnhjaaGreatDoor
open Go.RowKit Go.Sort

/-- one string appended to a row of the function's own -/
theorem push_str {w : World} {base : Nat} {A : Option Addr} {c : Nat} {xs : List ByteArray} (hrow : w.ownsRow base 9 1 (.slice A xs.length c) xs.length (xs.map Value.string)) (hbase : base ≤ w.heap.size) (y : ByteArray) (hlen : xs.length + 1 ≤ 1000000) :
    ∃ g cap w', (∀ ty, (Builtin.append_ #[86, 86] ty #[.slice A xs.length c, .slice (some ⟨w.heap.size, 0, none⟩) 1 1]).run Tryz.prog (w.alloc (.cells #[.string y] 9)) = .ok (.slice (some ⟨g, 0, none⟩) (xs.length + 1) cap) w') ∧
      w'.ownsRow base 9 1 (.slice (some ⟨g, 0, none⟩) (xs ++ [y]).length cap) (xs ++ [y]).length ((xs ++ [y]).map Value.string) ∧ (∀ B0 W0, Below B0 W0 w → B0 ≤ base → Below B0 W0 w') := by
  obtain ⟨W6, hW6⟩ : ∃ W6, W6 = w.alloc (.cells #[.string y] 9) := ⟨_, rfl⟩
  have hb6 : Below w.heap.size w W6 := by rw [hW6]; exact below1 (Nat.le_refl _) _
  have hs6 : W6.heap.size = w.heap.size + 1 := by rw [hW6]; simp
  have hx6 : W6.heap[w.heap.size]? = some (.cells #[.string y] 9 (0, 0)) := by rw [hW6]; exact heap_alloc_new _ _
  obtain ⟨i0, hi0, hz0, hz1, hz2⟩ := info_parts stringInfo
  obtain ⟨g, cap2, w7, hap, hrow7, hgr, hat, hlt7⟩ := run_append_lies (P := Tryz.prog) W6 86 0 base 9 i0 _ 1 16 Tryz.underlying86 hi0 hz0 hz1 hz2 rfl (by omega) (.slice A xs.length c) xs.length (xs.map Value.string) (own_below hrow hb6)
    ⟨w.heap.size, 0, none⟩ 1 1 [.string y] rfl (fun j u hu => World.news_of_block hx6 j u (by simpa using hu)) (by simp [Value.oneCell']) (by omega) (by unfold maxLen; omega) (by omega) (by omega) W6.heap.size rfl
  rw [← hW6]
  refine ⟨g, cap2, w7, fun _ => hap, by rw [List.length_append, List.map_append]; exact hrow7, fun B0 W0 hB hB0 => ?_⟩
  have hbs := hB.size
  exact (hB.trans (hb6.mono (by omega))).grown hgr (by omega) (fun j e => by have := (hrow.lt _ e).1; omega)

/-- what pieces returns -/
def Pieces (P : List (List UInt8)) (w : World) (e : Ending) (w' : World) : Prop :=
  ∃ (g c : Nat) (xs : List ByteArray), e = .returned (.slice (some ⟨g, 0, none⟩) xs.length c) ∧ xs.map (·.data.toList) = P ∧ w'.ownsRow w.heap.size 9 1 (.slice (some ⟨g, 0, none⟩) xs.length c) xs.length (xs.map Value.string) ∧ Below w.heap.size w w'

theorem extract_piece (s : ByteArray) (b k : Nat) : (s.extract b k).data.toList = (s.data.toList.take k).drop b := by
  rw [extract_list, List.drop_take]

set_option maxHeartbeats 1200000 in
theorem rpieces_any (s : ByteArray) (w : World) (hs : s.size ≤ 100000) : Calls Tryz.prog 76 #[.string s] w (Pieces (piecesE s.data.toList) w) := by
  have mixed : Tryz.prog.follows .mixedOrders = true := by kernel_rfl
  obtain ⟨l, hl⟩ : ∃ l, l = s.data.toList := ⟨_, rfl⟩
  have hsz : s.size = l.length := by rw [hl]; exact size_list s
  have hat : ∀ k, (h : k < l.length) → ∃ h' : k < s.size, s[k] = l[k] := fun k h => ⟨by omega, by subst hl; rfl⟩
  have HEX : Hid (∀ b k, (s.extract b k).data.toList = (l.take k).drop b) := Lib.hid fun b k => by rw [extract_piece, hl]
  have HCM : Hid (∀ k, ((s.extract k (k + 2)).toList == [44, 32]) = comma l k) := Lib.hid fun k => by
    rw [ByteArray.toList_eq, extract_list, hl]; unfold comma; congr 2; omega
  rw [← hl]
  have HAT := Lib.hid hat; clear hat hl
  go_enter Tryz.func76, Tryz.ntmps76
  go_wp2_with fail
  go_loopw [3, 4, 5, 6] (fun v d b i wr => ∃ (k c : Nat) (A : Option Addr) (xs : List ByteArray), k ≤ l.length ∧ i = .int .i64 k ∧ d = .int .i64 (pstate l k).d ∧ b = .int .i64 (pstate l k).b ∧ v = .slice A xs.length c ∧
      Hid (wr.ownsRow w.heap.size 9 1 (.slice A xs.length c) xs.length (xs.map Value.string)) ∧ Hid (xs.map (·.data.toList) = (pstate l k).out) ∧ Hid (Below w.heap.size w wr)) (fun _ _ _ i _ => l.length - (intOf i).toNat)
  case atStart => exact ⟨0, 0, none, [], Nat.zero_le _, rfl, rfl, rfl, rfl, World.ownsRow_nil _ _ _ _, rfl, Below.refl _ _⟩
  case round =>
    obtain ⟨k, c0, A0, xs, hk, rfl, rfl, rfl, rfl, HROW, HXS, HBW⟩ := hrel
    have i1 : (0 : Int) ≤ (k : Int) := Int.natCast_nonneg _
    obtain ⟨v1, v2, v3, v4, v5, v6⟩ := pstate_inv l k hk
    have hnext : pstate l (k + 1) = pstep l k (pstate l k) := rfl
    obtain ⟨d, hd⟩ : ∃ d, d = (pstate l k).d := ⟨_, rfl⟩
    obtain ⟨b, hb⟩ : ∃ b, b = (pstate l k).b := ⟨_, rfl⟩
    have hxl : xs.length ≤ k := by
      have := congrArg List.length HXS.out
      simp at this; omega
    by_cases hlt : k < l.length
    · have i2 : (k : Int) < (l.length : Int) := by omega
      obtain ⟨hks, hbk⟩ := HAT.out k hlt
      obtain ⟨bk, hbk'⟩ : ∃ bk, bk = l[k] := ⟨_, rfl⟩
      rw [← hbk'] at hbk
      unfold pstep at hnext
      rw [List.getElem?_eq_getElem hlt, ← hbk'] at hnext
      dsimp only at hnext
      rw [← hd, ← hb] at hnext ⊢
      rw [← hd] at v1 v2
      rw [← hb] at v3 v4 v5
      have HBK := Lib.hid hbk'; clear hbk'
      obtain ⟨c, hc⟩ : ∃ c : Int, c = (bk.toNat : Int) := ⟨_, rfl⟩
      rw [← hc] at hnext
      have hbc : Value.int .u8 (s[k].toNat : Int) = Value.int .u8 c := by rw [hbk, hc]
      have hbc2 : (s[k].toNat : Int) = c := by rw [hbk, hc]
      have hcc : c = (bk.toNat : Int) := hc
      have HNX := Lib.hid hnext; clear hnext
      have HDB := Lib.hid (And.intro hd hb); clear hd hb hc hbk
      have hcr : c = 40 ∨ c = 41 ∨ (c ≠ 40 ∧ c ≠ 41) := by omega
      have HCC := Lib.hid hcc; clear hcc
      rcases hcr with hcr | hcr | hcr
      · skip
        have f1 : (c == 40) = true := by rw [beq_iff_eq]; omega
        have f2 : (c == 41) = false := by rw [beq_eq_false_iff_ne]; omega
        have hnd : sdepth d c = d + 1 := by unfold sdepth; simp only [beq_iff_eq] at *; rw [if_pos hcr]
        rw [hnd] at HNX
        have hcf : comma l k = false := by
          cases hcm : comma l k with
          | false => rfl
          | true =>
            have h44 := (comma_len hcm).2.1
            rw [List.getElem?_eq_getElem hlt, ← HBK.out] at h44
            have : bk = 44 := by injection h44
            have h2 : (bk.toNat : Int) = 44 := by rw [this]; rfl
            have := HCC.out
            omega
        have HN : Hid (pstate l (k + 1) = ⟨d + 1, b, (pstate l k).out⟩) := by rw [HNX.out, if_neg (by rw [hcf]; simp)]; exact rfl
        have hq := HCM.out k
        rw [hcf] at hq
        clear hcr HNX hnd hcf
        rcases eq_facts (d + 1) 0 with ⟨h0, e0, n0⟩ | ⟨h0, e0, n0⟩
        · have HH0 := Lib.hid h0; clear h0
          by_cases hlt2 : k + 1 < l.length
          · have i3 : (k : Int) + 1 < (l.length : Int) := by omega
            go_wp2_with fail
            go_roundw
            case rel => exact ⟨k + 1, c0, A0, xs, by omega, by go_num, by rw [HN.out], by rw [HN.out], rfl, HROW.out, by rw [HN.out]; exact HXS.out, HBW.out⟩
            case measure => simp [intOf]; omega
          · have i3 : ¬ (k : Int) + 1 < (l.length : Int) := by omega
            go_wp2_with fail
            go_roundw
            case rel => exact ⟨k + 1, c0, A0, xs, by omega, by go_num, by rw [HN.out], by rw [HN.out], rfl, HROW.out, by rw [HN.out]; exact HXS.out, HBW.out⟩
            case measure => simp [intOf]; omega
        · have HH0 := Lib.hid h0; clear h0
          go_wp2_with fail
          go_roundw
          case rel => exact ⟨k + 1, c0, A0, xs, by omega, by go_num, by rw [HN.out], by rw [HN.out], rfl, HROW.out, by rw [HN.out]; exact HXS.out, HBW.out⟩
          case measure => simp [intOf]; omega
      · skip
        have f1 : (c == 40) = false := by rw [beq_eq_false_iff_ne]; omega
        have f2 : (c == 41) = true := by rw [beq_iff_eq]; omega
        have hnd : sdepth d c = d - 1 := by unfold sdepth; simp only [beq_iff_eq] at *; rw [if_neg (by omega), if_pos hcr]
        rw [hnd] at HNX
        have hcf : comma l k = false := by
          cases hcm : comma l k with
          | false => rfl
          | true =>
            have h44 := (comma_len hcm).2.1
            rw [List.getElem?_eq_getElem hlt, ← HBK.out] at h44
            have : bk = 44 := by injection h44
            have h2 : (bk.toNat : Int) = 44 := by rw [this]; rfl
            have := HCC.out
            omega
        have HN : Hid (pstate l (k + 1) = ⟨d - 1, b, (pstate l k).out⟩) := by rw [HNX.out, if_neg (by rw [hcf]; simp)]; exact rfl
        have hq := HCM.out k
        rw [hcf] at hq
        clear hcr HNX hnd hcf
        rcases eq_facts (d - 1) 0 with ⟨h0, e0, n0⟩ | ⟨h0, e0, n0⟩
        · have HH0 := Lib.hid h0; clear h0
          by_cases hlt2 : k + 1 < l.length
          · have i3 : (k : Int) + 1 < (l.length : Int) := by omega
            go_wp2_with fail
            go_roundw
            case rel => exact ⟨k + 1, c0, A0, xs, by omega, by go_num, by rw [HN.out], by rw [HN.out], rfl, HROW.out, by rw [HN.out]; exact HXS.out, HBW.out⟩
            case measure => simp [intOf]; omega
          · have i3 : ¬ (k : Int) + 1 < (l.length : Int) := by omega
            go_wp2_with fail
            go_roundw
            case rel => exact ⟨k + 1, c0, A0, xs, by omega, by go_num, by rw [HN.out], by rw [HN.out], rfl, HROW.out, by rw [HN.out]; exact HXS.out, HBW.out⟩
            case measure => simp [intOf]; omega
        · have HH0 := Lib.hid h0; clear h0
          go_wp2_with fail
          go_roundw
          case rel => exact ⟨k + 1, c0, A0, xs, by omega, by go_num, by rw [HN.out], by rw [HN.out], rfl, HROW.out, by rw [HN.out]; exact HXS.out, HBW.out⟩
          case measure => simp [intOf]; omega
      · skip
        have f1 : (c == 40) = false := by rw [beq_eq_false_iff_ne]; omega
        have f2 : (c == 41) = false := by rw [beq_eq_false_iff_ne]; omega
        have hnd : sdepth d c = d := by unfold sdepth; rw [if_neg hcr.1, if_neg hcr.2]
        rw [hnd] at HNX
        have hq := HCM.out k
        clear hcr hnd
        rcases eq_facts d 0 with ⟨h0, e0, n0⟩ | ⟨h0, e0, n0⟩
        · cases hcm : comma l k with
          | true =>
            have HN : Hid (pstate l (k + 1) = ⟨d, k + 2, (pstate l k).out ++ [(l.take k).drop b]⟩) := by rw [HNX.out, if_pos ⟨h0, hcm⟩]; exact rfl
            clear HNX
            have HH0 := Lib.hid h0; clear h0
            have hbk : b ≤ k := by
              rcases Nat.lt_or_ge b (k + 1) with g | g
              · omega
              · have h32 := v5 (by omega)
                have h44 := (comma_len hcm).2.1
                rw [h44] at h32; cases h32
            have i3 : (k : Int) + 1 < (l.length : Int) := by have := (comma_len hcm).1; omega
            have hk2 : k + 2 ≤ l.length := by have := (comma_len hcm).1; omega
            rw [hcm] at hq
            have HQ2 := Lib.hid hcm; clear hcm
            have hws := HBW.out.size
            obtain ⟨g, cap2, w7, hap, hrow7, hb7⟩ := push_str HROW.out hws (s.extract b k) (by omega)
            have HROW7 := Lib.hid hrow7; clear hrow7
            have HB7 := Lib.hid (hb7 _ _ HBW.out (Nat.le_refl _)); clear hb7
            go_wp2_with (at_builtin; refine wpList_run_append rfl _ _ rfl rfl rfl hap ?_)
            go_roundw
            case rel => exact ⟨k + 1, cap2, some ⟨g, 0, none⟩, xs ++ [s.extract b k], by omega, by go_num, by rw [HN.out], by rw [HN.out]; go_num, by rw [List.length_append]; rfl, HROW7.out, by show _ = _; rw [HN.out, List.map_append, HXS.out, List.map_singleton, HEX.out], HB7.out⟩
            case measure => simp [intOf]; omega
          | false =>
            have HN : Hid (pstate l (k + 1) = ⟨d, b, (pstate l k).out⟩) := by rw [HNX.out, if_neg (by rw [hcm]; simp)]; exact rfl
            clear HNX
            have HH0 := Lib.hid h0; clear h0
            rw [hcm] at hq
            clear hcm
            by_cases hlt2 : k + 1 < l.length
            · have i3 : (k : Int) + 1 < (l.length : Int) := by omega
              go_wp2_with fail
              go_roundw
              case rel => exact ⟨k + 1, c0, A0, xs, by omega, by go_num, by rw [HN.out], by rw [HN.out], rfl, HROW.out, by rw [HN.out]; exact HXS.out, HBW.out⟩
              case measure => simp [intOf]; omega
            · have i3 : ¬ (k : Int) + 1 < (l.length : Int) := by omega
              go_wp2_with fail
              go_roundw
              case rel => exact ⟨k + 1, c0, A0, xs, by omega, by go_num, by rw [HN.out], by rw [HN.out], rfl, HROW.out, by rw [HN.out]; exact HXS.out, HBW.out⟩
              case measure => simp [intOf]; omega
        · skip
          have HN : Hid (pstate l (k + 1) = ⟨d, b, (pstate l k).out⟩) := by rw [HNX.out, if_neg (fun h => h0 h.1)]; exact rfl
          clear HNX
          have HH0 := Lib.hid h0; clear h0
          go_wp2_with fail
          go_roundw
          case rel => exact ⟨k + 1, c0, A0, xs, by omega, by go_num, by rw [HN.out], by rw [HN.out], rfl, HROW.out, by rw [HN.out]; exact HXS.out, HBW.out⟩
          case measure => simp [intOf]; omega
    · obtain rfl : k = l.length := by omega
      rw [← hd, ← hb]
      rw [← hb] at v3
      have hpe : piecesE l = (pstate l l.length).out ++ [l.drop b] := by unfold piecesE; rw [← hb]
      have HPE := Lib.hid hpe; clear hpe hd hb hnext v1 v2 v4 v5 v6
      have hws := HBW.out.size
      obtain ⟨g, cap2, w7, hap, hrow7, hb7⟩ := push_str HROW.out hws (s.extract b l.length) (by omega)
      have HROW7 := Lib.hid hrow7; clear hrow7
      have HB7 := Lib.hid (hb7 _ _ HBW.out (Nat.le_refl _)); clear hb7
      have HLX : Hid ((s.extract b l.length).data.toList = l.drop b) := by show _ = _; rw [HEX.out, List.take_length]
      go_wp2_with (at_builtin; refine wpList_run_append rfl _ _ rfl rfl rfl hap ?_)
      go_ret
      exact ⟨g, cap2, xs ++ [s.extract b l.length], by rw [List.length_append]; rfl, by rw [HPE.out, List.map_append, HXS.out, List.map_singleton, HLX.out], HROW7.out, HB7.out⟩
end Go.Proofs.YtipmibjhlpnhjaaGreatDoor
