/- The reference's letter, digit, IsName and name. -/
import Derived.Test.YtbgkabgbgbebaaaDoorTake
namespace Go.Proofs.YtbgkabgbgbebaaaDoor
open Go.RowKit

/-- a digit -/
def digI (c : Int) : Bool := decide (48 ≤ c ∧ c ≤ 57)
theorem letter_0 (c : Int) (w : World) (h : c ≤ 64) : Calls Tryd.prog 90 #[.int .u8 c] w fun e w' => e = .returned (.bool (startI c)) ∧ w' = w := by
  have hp : (startI c) = false := by unfold startI; simp; omega
  rw [hp]
  have a0 : decide (97 ≤ c) = false := decide_eq_false (by omega)
  have a1 : decide (c ≤ 122) = true := decide_eq_true (by omega)
  have a2 : decide (65 ≤ c) = false := decide_eq_false (by omega)
  have a3 : decide (c ≤ 90) = true := decide_eq_true (by omega)
  clear hp h
  go_enter Tryd.func90, Tryd.ntmps90
  go_wp2_with fail
  go_ret
  exact ⟨rfl, rfl⟩
theorem letter_65 (c : Int) (w : World) (h : 65 ≤ c ∧ c ≤ 90) : Calls Tryd.prog 90 #[.int .u8 c] w fun e w' => e = .returned (.bool (startI c)) ∧ w' = w := by
  have hp : (startI c) = true := by unfold startI; simp; omega
  rw [hp]
  have a0 : decide (97 ≤ c) = false := decide_eq_false (by omega)
  have a1 : decide (c ≤ 122) = true := decide_eq_true (by omega)
  have a2 : decide (65 ≤ c) = true := decide_eq_true (by omega)
  have a3 : decide (c ≤ 90) = true := decide_eq_true (by omega)
  clear hp h
  go_enter Tryd.func90, Tryd.ntmps90
  go_wp2_with fail
  go_ret
  exact ⟨rfl, rfl⟩
theorem letter_91 (c : Int) (w : World) (h : 91 ≤ c ∧ c ≤ 96) : Calls Tryd.prog 90 #[.int .u8 c] w fun e w' => e = .returned (.bool (startI c)) ∧ w' = w := by
  have hp : (startI c) = false := by unfold startI; simp; omega
  rw [hp]
  have a0 : decide (97 ≤ c) = false := decide_eq_false (by omega)
  have a1 : decide (c ≤ 122) = true := decide_eq_true (by omega)
  have a2 : decide (65 ≤ c) = true := decide_eq_true (by omega)
  have a3 : decide (c ≤ 90) = false := decide_eq_false (by omega)
  clear hp h
  go_enter Tryd.func90, Tryd.ntmps90
  go_wp2_with fail
  go_ret
  exact ⟨rfl, rfl⟩
theorem letter_97 (c : Int) (w : World) (h : 97 ≤ c ∧ c ≤ 122) : Calls Tryd.prog 90 #[.int .u8 c] w fun e w' => e = .returned (.bool (startI c)) ∧ w' = w := by
  have hp : (startI c) = true := by unfold startI; simp; omega
  rw [hp]
  have a0 : decide (97 ≤ c) = true := decide_eq_true (by omega)
  have a1 : decide (c ≤ 122) = true := decide_eq_true (by omega)
  have a2 : decide (65 ≤ c) = true := decide_eq_true (by omega)
  have a3 : decide (c ≤ 90) = false := decide_eq_false (by omega)
  clear hp h
  go_enter Tryd.func90, Tryd.ntmps90
  go_wp2_with fail
  go_ret
  exact ⟨rfl, rfl⟩
theorem letter_123 (c : Int) (w : World) (h : 123 ≤ c) : Calls Tryd.prog 90 #[.int .u8 c] w fun e w' => e = .returned (.bool (startI c)) ∧ w' = w := by
  have hp : (startI c) = false := by unfold startI; simp; omega
  rw [hp]
  have a0 : decide (97 ≤ c) = true := decide_eq_true (by omega)
  have a1 : decide (c ≤ 122) = false := decide_eq_false (by omega)
  have a2 : decide (65 ≤ c) = true := decide_eq_true (by omega)
  have a3 : decide (c ≤ 90) = false := decide_eq_false (by omega)
  clear hp h
  go_enter Tryd.func90, Tryd.ntmps90
  go_wp2_with fail
  go_ret
  exact ⟨rfl, rfl⟩
theorem letter_any (c : Int) (w : World) : Calls Tryd.prog 90 #[.int .u8 c] w fun e w' => e = .returned (.bool (startI c)) ∧ w' = w := by
  by_cases h0 : c ≤ 64
  · exact letter_0 c w (by omega)
  by_cases h65 : c ≤ 90
  · exact letter_65 c w (by omega)
  by_cases h91 : c ≤ 96
  · exact letter_91 c w (by omega)
  by_cases h97 : c ≤ 122
  · exact letter_97 c w (by omega)
  exact letter_123 c w (by omega)
theorem digit_0 (c : Int) (w : World) (h : c ≤ 47) : Calls Tryd.prog 91 #[.int .u8 c] w fun e w' => e = .returned (.bool (digI c)) ∧ w' = w := by
  have hp : (digI c) = false := by unfold digI; simp; omega
  rw [hp]
  have a0 : decide (48 ≤ c) = false := decide_eq_false (by omega)
  have a1 : decide (c ≤ 57) = true := decide_eq_true (by omega)
  clear hp h
  go_enter Tryd.func91, Tryd.ntmps91
  go_wp2_with fail
  go_ret
  exact ⟨rfl, rfl⟩
theorem digit_48 (c : Int) (w : World) (h : 48 ≤ c ∧ c ≤ 57) : Calls Tryd.prog 91 #[.int .u8 c] w fun e w' => e = .returned (.bool (digI c)) ∧ w' = w := by
  have hp : (digI c) = true := by unfold digI; simp; omega
  rw [hp]
  have a0 : decide (48 ≤ c) = true := decide_eq_true (by omega)
  have a1 : decide (c ≤ 57) = true := decide_eq_true (by omega)
  clear hp h
  go_enter Tryd.func91, Tryd.ntmps91
  go_wp2_with fail
  go_ret
  exact ⟨rfl, rfl⟩
theorem digit_58 (c : Int) (w : World) (h : 58 ≤ c) : Calls Tryd.prog 91 #[.int .u8 c] w fun e w' => e = .returned (.bool (digI c)) ∧ w' = w := by
  have hp : (digI c) = false := by unfold digI; simp; omega
  rw [hp]
  have a0 : decide (48 ≤ c) = true := decide_eq_true (by omega)
  have a1 : decide (c ≤ 57) = false := decide_eq_false (by omega)
  clear hp h
  go_enter Tryd.func91, Tryd.ntmps91
  go_wp2_with fail
  go_ret
  exact ⟨rfl, rfl⟩
theorem digit_any (c : Int) (w : World) : Calls Tryd.prog 91 #[.int .u8 c] w fun e w' => e = .returned (.bool (digI c)) ∧ w' = w := by
  by_cases h0 : c ≤ 47
  · exact digit_0 c w (by omega)
  by_cases h48 : c ≤ 57
  · exact digit_48 c w (by omega)
  exact digit_58 c w (by omega)
/-- what a byte is, for the chains of conditions -/
theorem part_cases (c : Int) : (partI c = true ∧ startI c = true) ∨ (partI c = true ∧ startI c = false ∧ digI c = true) ∨ (partI c = true ∧ startI c = false ∧ digI c = false ∧ (c == 95) = true ∧ (c != 95) = false) ∨
    (partI c = true ∧ startI c = false ∧ digI c = false ∧ (c == 95) = false ∧ (c == 35) = true ∧ (c != 95) = true ∧ (c != 35) = false) ∨ (partI c = false ∧ startI c = false ∧ digI c = false ∧ (c == 95) = false ∧ (c == 35) = false ∧ (c != 95) = true ∧ (c != 35) = true) := by
  have e : partI c = (startI c || digI c || (c == 95) || (c == 35)) := by
    unfold partI startI digI; simp only [Bool.or_assoc]
  rw [e]
  unfold bne
  cases startI c <;> cases digI c <;> cases (c == 95) <;> cases (c == 35) <;> simp

set_option maxHeartbeats 2000000 in
theorem risName_any (s : ByteArray) (w : World) (hs : s.size ≤ maxLen) : Calls Tryd.prog 81 #[.string s] w fun e w' => e = .returned (.bool (nameL s.data.toList)) ∧ w' = w := by
  obtain ⟨l, hl⟩ : ∃ l, l = s.data.toList := ⟨_, rfl⟩
  have hsz : s.size = l.length := by rw [hl]; exact size_list s
  have hat : ∀ k, (h : k < l.length) → ∃ h' : k < s.size, s[k] = l[k] := fun k h => ⟨by omega, by subst hl; rfl⟩
  rw [← hl]
  clear hl
  have LE := Lib.hid letter_any
  have DI := Lib.hid digit_any
  have HAT := Lib.hid hat; clear hat
  unfold maxLen at hs
  obtain ⟨r, hr⟩ : ∃ r, r = nameL l := ⟨_, rfl⟩
  rw [← hr]
  have HRR := Lib.hid hr; clear hr
  by_cases h0 : l = []
  · have e : r = false := by rw [HRR.out]; exact nameL_false (.inr (.inl h0))
    subst e
    have hd : decide ((l.length : Int) = 0) = true := decide_eq_true (by rw [h0]; rfl)
    have hd' : ((l.length : Int) == 0) = true := by rw [h0]; rfl
    clear h0 HAT HRR
    go_enter Tryd.func81, Tryd.ntmps81
    go_wp2_with fail
    go_ret
    exact ⟨rfl, rfl⟩
  · have hpos : 0 < l.length := List.length_pos_iff.2 h0
    have hz : decide ((l.length : Int) = 0) = false := decide_eq_false (by omega)
    have hz' : ((l.length : Int) == 0) = false := by rw [beq_eq_false_iff_ne]; omega
    obtain ⟨hps, hb0⟩ := HAT.out 0 hpos
    by_cases h24 : 24 < l.length
    · have e : r = false := by rw [HRR.out]; exact nameL_false (.inl h24)
      subst e
      clear HAT HRR
      have hd : decide (24 < (l.length : Int)) = true := decide_eq_true (by omega)
      go_enter Tryd.func81, Tryd.ntmps81
      go_wp2_with fail
      go_ret
      exact ⟨rfl, rfl⟩
    · have hd : decide (24 < (l.length : Int)) = false := decide_eq_false (by omega)
      obtain ⟨b0, hb⟩ : ∃ b0, b0 = l[0] := ⟨_, rfl⟩
      rw [← hb] at hb0
      have HB := Lib.hid hb; clear hb
      cases hp : startI (b0.toNat : Int) with
      | false =>
        have e : r = false := by rw [HRR.out]; exact nameL_false (.inr (.inr (.inl ⟨hpos, by rw [← HB.out]; exact hp⟩)))
        subst e
        clear HAT HRR
        go_enter Tryd.func81, Tryd.ntmps81
        go_wp2_with (first | (go_at_call 90; refine (LE.out _ _).mono ?_; rintro e w1 ⟨rfl, rfl⟩) | (go_at_call 91; refine (DI.out _ _).mono ?_; rintro e w1 ⟨rfl, rfl⟩))
        go_ret
        exact ⟨rfl, rfl⟩
      | true =>
        have HST := Lib.hid hp
        go_enter Tryd.func81, Tryd.ntmps81
        go_wp2_with (first | (go_at_call 90; refine (LE.out _ _).mono ?_; rintro e w1 ⟨rfl, rfl⟩) | (go_at_call 91; refine (DI.out _ _).mono ?_; rintro e w1 ⟨rfl, rfl⟩))
        go_loopw [3] (fun i wr => ∃ k : Nat, k ≤ l.length ∧ i = .int .i64 k ∧ Hid (∀ j, (h : j < l.length) → j < k → partB l[j] = true) ∧ wr = w1) (fun i _ => l.length - (intOf i).toNat)
        case atStart => exact ⟨0, Nat.zero_le _, rfl, fun j _ h => absurd h (Nat.not_lt_zero j), rfl⟩
        case round =>
          obtain ⟨k, hk, rfl, HK, rfl⟩ := hrel
          clear hp
          by_cases hlt : k < l.length
          · obtain ⟨hks, hbk⟩ := HAT.out k hlt
            obtain ⟨bk, hbk'⟩ : ∃ bk, bk = l[k] := ⟨_, rfl⟩
            rw [← hbk'] at hbk
            have HBK := Lib.hid hbk'; clear hbk'
            have yes : Hid (partI (bk.toNat : Int) = true → ∀ j, (h : j < l.length) → j < k + 1 → partB l[j] = true) := fun hpk j hj hjk => by
              by_cases e : j = k
              · subst e; rw [← HBK.out]; exact hpk
              · exact HK.out j hj (by omega)
            rcases part_cases (bk.toNat : Int) with ⟨p, c1⟩ | ⟨p, c1, c2⟩ | ⟨p, c1, c2, c3, n3⟩ | ⟨p, c1, c2, c3, c4, n3, n4⟩ | ⟨p, c1, c2, c3, c4, n3, n4⟩
            iterate 4
              · have HP := Lib.hid p; clear p
                go_wp2_with (first | (go_at_call 90; refine (LE.out _ _).mono ?_; rintro e w1 ⟨rfl, rfl⟩) | (go_at_call 91; refine (DI.out _ _).mono ?_; rintro e w1 ⟨rfl, rfl⟩))
                go_roundw
                case rel => exact ⟨k + 1, by omega, by go_num, yes.out HP.out, trivial⟩
                case measure => simp [intOf]; omega
            · have hr0 := Lib.hid (HRR.out.trans (nameL_false (l := l) (.inr (.inr (.inr ⟨l[k], List.getElem_mem _, by rw [← HBK.out]; exact p⟩)))))
              clear p
              go_wp2_with (first | (go_at_call 90; refine (LE.out _ _).mono ?_; rintro e w1 ⟨rfl, rfl⟩) | (go_at_call 91; refine (DI.out _ _).mono ?_; rintro e w1 ⟨rfl, rfl⟩))
              go_ret
              exact ⟨by rw [hr0.out]; rfl, rfl⟩
          · obtain rfl : k = l.length := by omega
            have hr1 := Lib.hid (HRR.out.trans (nameL_true (l := l) (by omega) hpos (by rw [← HB.out]; exact HST.out) (fun j hj => HK.out j hj hj)))
            go_wp2_with fail
            go_ret
            exact ⟨by rw [hr1.out]; rfl, rfl⟩

set_option maxHeartbeats 2000000 in
theorem rname_any (s : ByteArray) (w : World) (hs : s.size ≤ 1000000000) : Calls Tryd.prog 80 #[.string s] w fun e w' => ∃ x : ByteArray, e = .returned (.string x) ∧ x.data.toList = s.data.toList.takeWhile partB ∧ x.size = wlen s.data.toList ∧ w' = w := by
  obtain ⟨l, hl⟩ : ∃ l, l = s.data.toList := ⟨_, rfl⟩
  have hsz : s.size = l.length := by rw [hl]; exact size_list s
  have hat : ∀ k, (h : k < l.length) → ∃ h' : k < s.size, s[k] = l[k] := fun k h => ⟨by omega, by subst hl; rfl⟩
  have hex : ∀ k, k ≤ s.size → (s.extract 0 k).data.toList = l.take k := fun k hk => by rw [extract_list, hl]; simp
  have hxs : ∀ k, k ≤ s.size → (s.extract 0 k).size = k := fun k hk => by simp; omega
  rw [← hl]
  clear hl
  have LE := Lib.hid letter_any
  have DI := Lib.hid digit_any
  have HAT := Lib.hid hat; clear hat
  have HEX := Lib.hid hex; clear hex
  have HXS := Lib.hid hxs; clear hxs
  go_enter Tryd.func80, Tryd.ntmps80
  go_wp2_with fail
  go_loopw [3] (fun i wr => ∃ k : Nat, k ≤ l.length ∧ i = .int .i64 k ∧ Hid (∀ j, (h : j < l.length) → j < k → partB l[j] = true) ∧ wr = w) (fun i _ => l.length - (intOf i).toNat)
  case atStart => exact ⟨0, Nat.zero_le _, rfl, fun j _ h => absurd h (Nat.not_lt_zero j), rfl⟩
  case round =>
    obtain ⟨k, hk, rfl, HK, rfl⟩ := hrel
    have stop : Hid ((∀ h : k < l.length, partB l[k] = false) → (s.extract 0 k).data.toList = l.takeWhile partB ∧ (s.extract 0 k).size = wlen l) := fun h => by
      obtain ⟨e1, -⟩ := takeWhile_eq l k hk (fun j hj hjk => HK.out j hj hjk) h
      refine ⟨by rw [HEX.out k (by omega), e1], ?_⟩
      unfold wlen
      rw [HXS.out k (by omega), e1, List.length_take]; omega
    have hks' : k ≤ s.size := by omega
    by_cases hlt : k < l.length
    · obtain ⟨hks, hbk⟩ := HAT.out k hlt
      obtain ⟨bk, hbk'⟩ : ∃ bk, bk = l[k] := ⟨_, rfl⟩
      rw [← hbk'] at hbk
      have HBK := Lib.hid hbk'; clear hbk'
      have yes : Hid (partI (bk.toNat : Int) = true → ∀ j, (h : j < l.length) → j < k + 1 → partB l[j] = true) := fun hpk j hj hjk => by
        by_cases e : j = k
        · subst e; rw [← HBK.out]; exact hpk
        · exact HK.out j hj (by omega)
      rcases part_cases (bk.toNat : Int) with ⟨p, c1⟩ | ⟨p, c1, c2⟩ | ⟨p, c1, c2, c3, n3⟩ | ⟨p, c1, c2, c3, c4, n3, n4⟩ | ⟨p, c1, c2, c3, c4, n3, n4⟩
      iterate 4
        · have HP := Lib.hid p; clear p
          go_wp2_with (first | (go_at_call 90; refine (LE.out _ _).mono ?_; rintro e w1 ⟨rfl, rfl⟩) | (go_at_call 91; refine (DI.out _ _).mono ?_; rintro e w1 ⟨rfl, rfl⟩))
          go_roundw
          case rel => exact ⟨k + 1, by omega, by go_num, yes.out HP.out, trivial⟩
          case measure => simp [intOf]; omega
      · have hend := Lib.hid (stop.out (fun h => by rw [← HBK.out]; exact p))
        clear p stop yes
        go_wp2_with (first | (go_at_call 90; refine (LE.out _ _).mono ?_; rintro e w1 ⟨rfl, rfl⟩) | (go_at_call 91; refine (DI.out _ _).mono ?_; rintro e w1 ⟨rfl, rfl⟩))
        go_ret
        exact ⟨_, rfl, hend.out.1, hend.out.2, rfl⟩
    · have hend := Lib.hid (stop.out (fun h => absurd h hlt))
      obtain rfl : k = l.length := by omega
      clear stop
      go_wp2_with fail
      go_ret
      exact ⟨_, rfl, hend.out.1, hend.out.2, rfl⟩

end Go.Proofs.YtbgkabgbgbebaaaDoor
