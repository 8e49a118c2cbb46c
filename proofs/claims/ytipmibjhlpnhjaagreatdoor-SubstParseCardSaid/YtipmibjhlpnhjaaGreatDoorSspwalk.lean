/- subst.pieces, walked. -/
import Derived.Test.YtipmibjhlpnhjaaGreatDoorSrpwalk
namespace Go.Proofs.YtipmibjhlpnhjaaGreatDoor
open Go.RowKit Go.Sort

theorem comma_prefix (l : List UInt8) (k : Nat) : Lib.hasPrefix (l.drop k) [44, 32] = comma l k := by
  rw [Lib.hasPrefix, comma, Bool.eq_iff_iff, List.isPrefixOf_iff_prefix, List.prefix_iff_eq_take, beq_iff_eq]
  exact eq_comm
theorem comma_not {l : List UInt8} {k : Nat} {b : UInt8} (h : l[k]? = some b) (hb : b.toNat ≠ 44) : comma l k = false := by
  cases hcm : comma l k with
  | false => rfl
  | true =>
    have h44 := (comma_len hcm).2.1
    rw [h] at h44
    have : b = 44 := by injection h44
    exact absurd (by rw [this]; rfl) hb

set_option maxHeartbeats 1200000 in
theorem spieces_any (s : ByteArray) (w : World) (hs : s.size ≤ 100000) : Calls Tryz.prog 70 #[.string s] w (Pieces (piecesE s.data.toList) w) := by
  have mixed : Tryz.prog.follows .mixedOrders = true := by kernel_rfl
  obtain ⟨l, hl⟩ : ∃ l, l = s.data.toList := ⟨_, rfl⟩
  have hsz : s.size = l.length := by rw [hl]; exact size_list s
  have hat : ∀ k, (h : k < l.length) → ∃ h' : k < s.size, s[k] = l[k] := fun k h => ⟨by omega, by subst hl; rfl⟩
  have HEX : Hid (∀ b k, (s.extract b k).data.toList = (l.take k).drop b) := Lib.hid fun b k => by rw [extract_piece, hl]
  have HPF : Hid (∀ k Z, Calls Tryz.prog 117 #[.string (s.extract k l.length), .string ⟨#[44, 32]⟩] Z fun e w' => e = .returned (.bool (comma l k)) ∧ w' = Z) := Lib.hid fun k Z => by
    have h := Tryz.strings_HasPrefix (s.extract k l.length) ⟨#[44, 32]⟩ Z
    have e : (s.extract k l.length).data.toList = l.drop k := by rw [← hsz, extract_rest, hl]
    have e2 : (⟨#[44, 32]⟩ : ByteArray).data.toList = [44, 32] := rfl
    rw [e, e2, comma_prefix] at h; exact h
  rw [← hl]
  have HAT := Lib.hid hat; clear hat hl
  go_enter Tryz.func70, Tryz.ntmps70
  go_wp2_with fail
  go_loopw [3, 4, 5, 9] (fun v d b i wr => ∃ (k c : Nat) (A : Option Addr) (xs : List ByteArray), k ≤ l.length ∧ i = .int .i64 k ∧ d = .int .i64 (pstate l k).d ∧ b = .int .i64 (pstate l k).b ∧ v = .slice A xs.length c ∧
      Hid (wr.ownsRow w.heap.size 9 1 (.slice A xs.length c) xs.length (xs.map Value.string)) ∧ Hid (xs.map (·.data.toList) = (pstate l k).out) ∧ Hid (Below w.heap.size w wr)) (fun _ _ _ i _ => l.length - (intOf i).toNat)
  case atStart => exact ⟨0, 0, none, [], Nat.zero_le _, rfl, rfl, rfl, rfl, World.ownsRow_nil _ _ _ _, rfl, Below.refl _ _⟩
  case round =>
    obtain ⟨k, c0, A0, xs, hk, rfl, rfl, rfl, rfl, HROW, HXS, HBW⟩ := hrel
    have i1 : (0 : Int) ≤ (k : Int) := Int.natCast_nonneg _
    obtain ⟨v1, v2, v3, v4, v5, v6⟩ := pstate_inv l k hk
    have hnext : pstate l (k + 1) = pstep l k (pstate l k) := rfl
    obtain ⟨d, hd⟩ : ∃ d, d = (pstate l k).d := ⟨_, rfl⟩
    obtain ⟨b, hb⟩ : ∃ b, b = (pstate l k).b := ⟨_, rfl⟩
    have hxl : xs.length ≤ k := by
      have := congrArg List.length HXS.out
      simp at this; omega
    by_cases hlt : k < l.length
    · have i2 : (k : Int) < (l.length : Int) := by omega
      obtain ⟨hks, hbk⟩ := HAT.out k hlt
      obtain ⟨bk, hbk'⟩ : ∃ bk, bk = l[k] := ⟨_, rfl⟩
      rw [← hbk'] at hbk
      unfold pstep at hnext
      rw [List.getElem?_eq_getElem hlt, ← hbk'] at hnext
      dsimp only at hnext
      rw [← hd, ← hb] at hnext ⊢
      rw [← hd] at v1 v2
      rw [← hb] at v3 v4 v5
      have HBK := Lib.hid hbk'; clear hbk'
      obtain ⟨c, hc⟩ : ∃ c : Int, c = (bk.toNat : Int) := ⟨_, rfl⟩
      rw [← hc] at hnext
      have hbc : Value.int .u8 (s[k].toNat : Int) = Value.int .u8 c := by rw [hbk, hc]
      have hbc2 : (s[k].toNat : Int) = c := by rw [hbk, hc]
      have hcc : c = (bk.toNat : Int) := hc
      have HNX := Lib.hid hnext; clear hnext
      have HDB := Lib.hid (And.intro hd hb); clear hd hb hc hbk
      have HCC := Lib.hid hcc; have hcc2 := HCC.out; clear hcc
      have hget : l[k]? = some bk := by rw [HBK.out]; exact List.getElem?_eq_getElem hlt
      have hcr : c = 40 ∨ c = 41 ∨ c = 44 ∨ (c ≠ 40 ∧ c ≠ 41 ∧ c ≠ 44) := by omega
      rcases hcr with hcr | hcr | hcr | hcr
      · skip
        have f40 : (c == 40) = true := by rw [beq_iff_eq]; omega
        have f41 : (c == 41) = false := by rw [beq_eq_false_iff_ne]; omega
        have f44 : (c == 44) = false := by rw [beq_eq_false_iff_ne]; omega
        have hnd : sdepth d c = d + 1 := by unfold sdepth; rw [if_pos hcr]
        rw [hnd] at HNX
        have hcf := comma_not hget (by omega)
        have HN : Hid (pstate l (k + 1) = ⟨d + 1, b, (pstate l k).out⟩) := by rw [HNX.out, if_neg (by rw [hcf]; simp)]; exact rfl
        clear hcr HNX hnd hcf hget
        go_wp2_with fail
        go_roundw
        case rel => exact ⟨k + 1, c0, A0, xs, by omega, by go_num, by rw [HN.out], by rw [HN.out], rfl, HROW.out, by rw [HN.out]; exact HXS.out, HBW.out⟩
        case measure => simp [intOf]; omega
      · skip
        have f40 : (c == 40) = false := by rw [beq_eq_false_iff_ne]; omega
        have f41 : (c == 41) = true := by rw [beq_iff_eq]; omega
        have f44 : (c == 44) = false := by rw [beq_eq_false_iff_ne]; omega
        have hnd : sdepth d c = d - 1 := by unfold sdepth; rw [if_neg (by omega), if_pos hcr]
        rw [hnd] at HNX
        have hcf := comma_not hget (by omega)
        have HN : Hid (pstate l (k + 1) = ⟨d - 1, b, (pstate l k).out⟩) := by rw [HNX.out, if_neg (by rw [hcf]; simp)]; exact rfl
        clear hcr HNX hnd hcf hget
        go_wp2_with fail
        go_roundw
        case rel => exact ⟨k + 1, c0, A0, xs, by omega, by go_num, by rw [HN.out], by rw [HN.out], rfl, HROW.out, by rw [HN.out]; exact HXS.out, HBW.out⟩
        case measure => simp [intOf]; omega
      · skip
        have f40 : (c == 40) = false := by rw [beq_eq_false_iff_ne]; omega
        have f41 : (c == 41) = false := by rw [beq_eq_false_iff_ne]; omega
        have f44 : (c == 44) = true := by rw [beq_iff_eq]; omega
        have hnd : sdepth d c = d := by unfold sdepth; rw [if_neg (by omega), if_neg (by omega)]
        rw [hnd] at HNX
        have hbk : b ≤ k := by
          rcases Nat.lt_or_ge b (k + 1) with g | g
          · omega
          · have h32 := v5 (by omega)
            rw [hget] at h32
            have : bk = 32 := by injection h32
            have h2 : (bk.toNat : Int) = 32 := by rw [this]; rfl
            have := HCC.out
            omega
        have i4 : (b : Int) ≤ (k : Int) := by omega
        have hp := HPF.out k wr
        clear hcr hnd hget
        rcases eq_facts d 0 with ⟨h0, e0, n0⟩ | ⟨h0, e0, n0⟩
        · cases hcm : comma l k with
          | true =>
            have HN : Hid (pstate l (k + 1) = ⟨d, k + 2, (pstate l k).out ++ [(l.take k).drop b]⟩) := by rw [HNX.out, if_pos ⟨h0, hcm⟩]; exact rfl
            clear HNX
            have HH0 := Lib.hid h0; clear h0
            have hk2 : k + 2 ≤ l.length := by have := (comma_len hcm).1; omega
            rw [hcm] at hp
            have HP := Lib.hid hp; clear hp
            have HQ2 := Lib.hid hcm; clear hcm
            have hws := HBW.out.size
            obtain ⟨g, cap2, w7, hap, hrow7, hb7⟩ := push_str HROW.out hws (s.extract b k) (by omega)
            have HROW7 := Lib.hid hrow7; clear hrow7
            have HB7 := Lib.hid (hb7 _ _ HBW.out (Nat.le_refl _)); clear hb7
            go_wp2_with fail
            refine HP.out.mono ?_
            rintro e w2 ⟨rfl, rfl⟩
            go_wp2_with (at_builtin; refine wpList_run_append rfl _ _ rfl rfl rfl hap ?_)
            go_roundw
            case rel => exact ⟨k + 1, cap2, some ⟨g, 0, none⟩, xs ++ [s.extract b k], by omega, by go_num, by rw [HN.out], by rw [HN.out]; go_num, by rw [List.length_append]; rfl, HROW7.out, by show _ = _; rw [HN.out, List.map_append, HXS.out, List.map_singleton, HEX.out], HB7.out⟩
            case measure => simp [intOf]; omega
          | false =>
            have HN : Hid (pstate l (k + 1) = ⟨d, b, (pstate l k).out⟩) := by rw [HNX.out, if_neg (by rw [hcm]; simp)]; exact rfl
            clear HNX
            have HH0 := Lib.hid h0; clear h0
            rw [hcm] at hp
            have HP := Lib.hid hp; clear hp hcm
            go_wp2_with fail
            refine HP.out.mono ?_
            rintro e w2 ⟨rfl, rfl⟩
            go_wp2_with fail
            go_roundw
            case rel => exact ⟨k + 1, c0, A0, xs, by omega, by go_num, by rw [HN.out], by rw [HN.out], rfl, HROW.out, by rw [HN.out]; exact HXS.out, HBW.out⟩
            case measure => simp [intOf]; omega
        · have HN : Hid (pstate l (k + 1) = ⟨d, b, (pstate l k).out⟩) := by rw [HNX.out, if_neg (fun h => h0 h.1)]; exact rfl
          clear HNX
          have HH0 := Lib.hid h0; clear h0
          have HP := Lib.hid hp; clear hp
          go_wp2_with fail
          go_roundw
          case rel => exact ⟨k + 1, c0, A0, xs, by omega, by go_num, by rw [HN.out], by rw [HN.out], rfl, HROW.out, by rw [HN.out]; exact HXS.out, HBW.out⟩
          case measure => simp [intOf]; omega
      · skip
        have f40 : (c == 40) = false := by rw [beq_eq_false_iff_ne]; omega
        have f41 : (c == 41) = false := by rw [beq_eq_false_iff_ne]; omega
        have f44 : (c == 44) = false := by rw [beq_eq_false_iff_ne]; omega
        have hnd : sdepth d c = d := by unfold sdepth; rw [if_neg hcr.1, if_neg hcr.2.1]
        rw [hnd] at HNX
        have hcf := comma_not hget (by omega)
        have HN : Hid (pstate l (k + 1) = ⟨d, b, (pstate l k).out⟩) := by rw [HNX.out, if_neg (by rw [hcf]; simp)]; exact rfl
        clear hcr HNX hnd hcf hget
        go_wp2_with fail
        go_roundw
        case rel => exact ⟨k + 1, c0, A0, xs, by omega, by go_num, by rw [HN.out], by rw [HN.out], rfl, HROW.out, by rw [HN.out]; exact HXS.out, HBW.out⟩
        case measure => simp [intOf]; omega
    · obtain rfl : k = l.length := by omega
      rw [← hd, ← hb]
      rw [← hb] at v3
      have hpe : piecesE l = (pstate l l.length).out ++ [l.drop b] := by unfold piecesE; rw [← hb]
      have HPE := Lib.hid hpe; clear hpe hd hb hnext v1 v2 v4 v5 v6
      have hws := HBW.out.size
      obtain ⟨g, cap2, w7, hap, hrow7, hb7⟩ := push_str HROW.out hws (s.extract b l.length) (by omega)
      have HROW7 := Lib.hid hrow7; clear hrow7
      have HB7 := Lib.hid (hb7 _ _ HBW.out (Nat.le_refl _)); clear hb7
      have HLX : Hid ((s.extract b l.length).data.toList = l.drop b) := by show _ = _; rw [HEX.out, List.take_length]
      go_wp2_with (at_builtin; refine wpList_run_append rfl _ _ rfl rfl rfl hap ?_)
      go_ret
      exact ⟨g, cap2, xs ++ [s.extract b l.length], by rw [List.length_append]; rfl, by rw [HPE.out, List.map_append, HXS.out, List.map_singleton, HLX.out], HROW7.out, HB7.out⟩
end Go.Proofs.YtipmibjhlpnhjaaGreatDoor
