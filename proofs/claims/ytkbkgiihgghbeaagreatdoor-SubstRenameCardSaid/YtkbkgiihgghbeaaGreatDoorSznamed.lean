/- The bytes of a suffix: subst.named and the reference's plain. -/
import Derived.Test.YtkbkgiihgghbeaaGreatDoorSguard
namespace Go.Proofs.YtkbkgiihgghbeaaGreatDoor
open Go.RowKit Go.Sort

theorem allB_false {l : List UInt8} {b : UInt8} (hb : b ∈ l) (h : partB b = false) : l.all partB = false := by
  rw [List.all_eq_false]; exact ⟨b, hb, by simp [h]⟩
theorem allB_true {l : List UInt8} (h : ∀ j, (hj : j < l.length) → partB l[j] = true) : l.all partB = true := by
  rw [List.all_eq_true]
  intro b hb
  obtain ⟨j, hj, rfl⟩ := List.getElem_of_mem hb
  exact h j hj

set_option maxHeartbeats 2000000 in
theorem named_any (s : ByteArray) (w : World) (hs : s.size ≤ maxLen) : Calls Tryz.prog 26 #[.string s] w fun e w' => e = .returned (.bool (s.data.toList.all partB)) ∧ w' = w := by
  obtain ⟨l, hl⟩ : ∃ l, l = s.data.toList := ⟨_, rfl⟩
  have hsz : s.size = l.length := by rw [hl]; exact size_list s
  have hat : ∀ k, (h : k < l.length) → ∃ h' : k < s.size, s[k] = l[k] := fun k h => ⟨by omega, by subst hl; rfl⟩
  rw [← hl]
  clear hl
  have HAT := Lib.hid hat; clear hat
  unfold maxLen at hs
  obtain ⟨r, hr⟩ : ∃ r, r = l.all partB := ⟨_, rfl⟩
  rw [← hr]
  have HRR := Lib.hid hr; clear hr
  go_enter Tryz.func26, Tryz.ntmps26
  go_wp2_with fail
  go_loopw [3, 4, 7] (fun _ _ i wr => ∃ k : Nat, k ≤ l.length ∧ i = .int .i64 k ∧ Hid (∀ j, (h : j < l.length) → j < k → partB l[j] = true) ∧ wr = w) (fun _ _ i _ => l.length - (intOf i).toNat)
  case atStart => exact ⟨0, Nat.zero_le _, rfl, fun j _ h => absurd h (Nat.not_lt_zero j), rfl⟩
  case round =>
    obtain ⟨k, hk, rfl, HK, rfl⟩ := hrel
    by_cases hlt : k < l.length
    · obtain ⟨hks, hbk⟩ := HAT.out k hlt
      obtain ⟨bk, hbk'⟩ : ∃ bk, bk = l[k] := ⟨_, rfl⟩
      rw [← hbk'] at hbk
      have HBK := Lib.hid hbk'; clear hbk'
      obtain ⟨c, hc⟩ : ∃ c : Int, c = (bk.toNat : Int) := ⟨_, rfl⟩
      have HC := Lib.hid hc
      have hbc : Value.int .u8 (s[k].toNat : Int) = Value.int .u8 c := by rw [hbk, hc]
      have hbc2 : (s[k].toNat : Int) = c := by rw [hbk, hc]
      have hcr : (c ≤ 34) ∨ (35 ≤ c ∧ c ≤ 35) ∨ (36 ≤ c ∧ c ≤ 47) ∨ (48 ≤ c ∧ c ≤ 57) ∨ (58 ≤ c ∧ c ≤ 64) ∨ (65 ≤ c ∧ c ≤ 90) ∨ (91 ≤ c ∧ c ≤ 94) ∨ (95 ≤ c ∧ c ≤ 95) ∨ (96 ≤ c ∧ c ≤ 96) ∨ (97 ≤ c ∧ c ≤ 122) ∨ (123 ≤ c) := by omega
      clear hc hbk
      rcases hcr with hcr | hcr | hcr | hcr | hcr | hcr | hcr | hcr | hcr | hcr | hcr
      · skip
        have a0 : decide (c < 97) = true := decide_eq_true (by omega)
        have a1 : decide (122 < c) = false := decide_eq_false (by omega)
        have a2 : decide (c < 65) = true := decide_eq_true (by omega)
        have a3 : decide (90 < c) = false := decide_eq_false (by omega)
        have a4 : decide (c < 48) = true := decide_eq_true (by omega)
        have a5 : decide (57 < c) = false := decide_eq_false (by omega)
        have e0 : (c != 95) = true := by simp; omega
        have e1 : (c != 35) = true := by simp; omega
        have hpk : partI c = false := by unfold partI; simp; omega
        have hr0 : r = false := HRR.out.trans (allB_false (List.getElem_mem hlt) (by rw [← HBK.out]; show partI _ = false; rw [← HC.out]; exact hpk))
        subst hr0
        clear hpk hcr
        go_wp2_with fail
        go_ret
        exact ⟨rfl, rfl⟩
      · skip
        have a0 : decide (c < 97) = true := decide_eq_true (by omega)
        have a1 : decide (122 < c) = false := decide_eq_false (by omega)
        have a2 : decide (c < 65) = true := decide_eq_true (by omega)
        have a3 : decide (90 < c) = false := decide_eq_false (by omega)
        have a4 : decide (c < 48) = true := decide_eq_true (by omega)
        have a5 : decide (57 < c) = false := decide_eq_false (by omega)
        have e0 : (c != 95) = true := by simp; omega
        have e1 : (c != 35) = false := by simp; omega
        have hpk : partI c = true := by unfold partI; simp; omega
        have HPK := Lib.hid hpk; clear hpk
        clear hcr
        go_wp2_with fail
        go_roundw
        case rel =>
          refine ⟨k + 1, by omega, by go_num, fun j hj hjk => ?_, trivial⟩
          by_cases e : j = k
          · subst e; rw [← HBK.out]; show partI _ = true; rw [← HC.out]; exact HPK.out
          · exact HK.out j hj (by omega)
        case measure => simp [intOf]; omega
      · skip
        have a0 : decide (c < 97) = true := decide_eq_true (by omega)
        have a1 : decide (122 < c) = false := decide_eq_false (by omega)
        have a2 : decide (c < 65) = true := decide_eq_true (by omega)
        have a3 : decide (90 < c) = false := decide_eq_false (by omega)
        have a4 : decide (c < 48) = true := decide_eq_true (by omega)
        have a5 : decide (57 < c) = false := decide_eq_false (by omega)
        have e0 : (c != 95) = true := by simp; omega
        have e1 : (c != 35) = true := by simp; omega
        have hpk : partI c = false := by unfold partI; simp; omega
        have hr0 : r = false := HRR.out.trans (allB_false (List.getElem_mem hlt) (by rw [← HBK.out]; show partI _ = false; rw [← HC.out]; exact hpk))
        subst hr0
        clear hpk hcr
        go_wp2_with fail
        go_ret
        exact ⟨rfl, rfl⟩
      · skip
        have a0 : decide (c < 97) = true := decide_eq_true (by omega)
        have a1 : decide (122 < c) = false := decide_eq_false (by omega)
        have a2 : decide (c < 65) = true := decide_eq_true (by omega)
        have a3 : decide (90 < c) = false := decide_eq_false (by omega)
        have a4 : decide (c < 48) = false := decide_eq_false (by omega)
        have a5 : decide (57 < c) = false := decide_eq_false (by omega)
        have e0 : (c != 95) = true := by simp; omega
        have e1 : (c != 35) = true := by simp; omega
        have hpk : partI c = true := by unfold partI; simp; omega
        have HPK := Lib.hid hpk; clear hpk
        clear hcr
        go_wp2_with fail
        go_roundw
        case rel =>
          refine ⟨k + 1, by omega, by go_num, fun j hj hjk => ?_, trivial⟩
          by_cases e : j = k
          · subst e; rw [← HBK.out]; show partI _ = true; rw [← HC.out]; exact HPK.out
          · exact HK.out j hj (by omega)
        case measure => simp [intOf]; omega
      · skip
        have a0 : decide (c < 97) = true := decide_eq_true (by omega)
        have a1 : decide (122 < c) = false := decide_eq_false (by omega)
        have a2 : decide (c < 65) = true := decide_eq_true (by omega)
        have a3 : decide (90 < c) = false := decide_eq_false (by omega)
        have a4 : decide (c < 48) = false := decide_eq_false (by omega)
        have a5 : decide (57 < c) = true := decide_eq_true (by omega)
        have e0 : (c != 95) = true := by simp; omega
        have e1 : (c != 35) = true := by simp; omega
        have hpk : partI c = false := by unfold partI; simp; omega
        have hr0 : r = false := HRR.out.trans (allB_false (List.getElem_mem hlt) (by rw [← HBK.out]; show partI _ = false; rw [← HC.out]; exact hpk))
        subst hr0
        clear hpk hcr
        go_wp2_with fail
        go_ret
        exact ⟨rfl, rfl⟩
      · skip
        have a0 : decide (c < 97) = true := decide_eq_true (by omega)
        have a1 : decide (122 < c) = false := decide_eq_false (by omega)
        have a2 : decide (c < 65) = false := decide_eq_false (by omega)
        have a3 : decide (90 < c) = false := decide_eq_false (by omega)
        have a4 : decide (c < 48) = false := decide_eq_false (by omega)
        have a5 : decide (57 < c) = true := decide_eq_true (by omega)
        have e0 : (c != 95) = true := by simp; omega
        have e1 : (c != 35) = true := by simp; omega
        have hpk : partI c = true := by unfold partI; simp; omega
        have HPK := Lib.hid hpk; clear hpk
        clear hcr
        go_wp2_with fail
        go_roundw
        case rel =>
          refine ⟨k + 1, by omega, by go_num, fun j hj hjk => ?_, trivial⟩
          by_cases e : j = k
          · subst e; rw [← HBK.out]; show partI _ = true; rw [← HC.out]; exact HPK.out
          · exact HK.out j hj (by omega)
        case measure => simp [intOf]; omega
      · skip
        have a0 : decide (c < 97) = true := decide_eq_true (by omega)
        have a1 : decide (122 < c) = false := decide_eq_false (by omega)
        have a2 : decide (c < 65) = false := decide_eq_false (by omega)
        have a3 : decide (90 < c) = true := decide_eq_true (by omega)
        have a4 : decide (c < 48) = false := decide_eq_false (by omega)
        have a5 : decide (57 < c) = true := decide_eq_true (by omega)
        have e0 : (c != 95) = true := by simp; omega
        have e1 : (c != 35) = true := by simp; omega
        have hpk : partI c = false := by unfold partI; simp; omega
        have hr0 : r = false := HRR.out.trans (allB_false (List.getElem_mem hlt) (by rw [← HBK.out]; show partI _ = false; rw [← HC.out]; exact hpk))
        subst hr0
        clear hpk hcr
        go_wp2_with fail
        go_ret
        exact ⟨rfl, rfl⟩
      · skip
        have a0 : decide (c < 97) = true := decide_eq_true (by omega)
        have a1 : decide (122 < c) = false := decide_eq_false (by omega)
        have a2 : decide (c < 65) = false := decide_eq_false (by omega)
        have a3 : decide (90 < c) = true := decide_eq_true (by omega)
        have a4 : decide (c < 48) = false := decide_eq_false (by omega)
        have a5 : decide (57 < c) = true := decide_eq_true (by omega)
        have e0 : (c != 95) = false := by simp; omega
        have e1 : (c != 35) = true := by simp; omega
        have hpk : partI c = true := by unfold partI; simp; omega
        have HPK := Lib.hid hpk; clear hpk
        clear hcr
        go_wp2_with fail
        go_roundw
        case rel =>
          refine ⟨k + 1, by omega, by go_num, fun j hj hjk => ?_, trivial⟩
          by_cases e : j = k
          · subst e; rw [← HBK.out]; show partI _ = true; rw [← HC.out]; exact HPK.out
          · exact HK.out j hj (by omega)
        case measure => simp [intOf]; omega
      · skip
        have a0 : decide (c < 97) = true := decide_eq_true (by omega)
        have a1 : decide (122 < c) = false := decide_eq_false (by omega)
        have a2 : decide (c < 65) = false := decide_eq_false (by omega)
        have a3 : decide (90 < c) = true := decide_eq_true (by omega)
        have a4 : decide (c < 48) = false := decide_eq_false (by omega)
        have a5 : decide (57 < c) = true := decide_eq_true (by omega)
        have e0 : (c != 95) = true := by simp; omega
        have e1 : (c != 35) = true := by simp; omega
        have hpk : partI c = false := by unfold partI; simp; omega
        have hr0 : r = false := HRR.out.trans (allB_false (List.getElem_mem hlt) (by rw [← HBK.out]; show partI _ = false; rw [← HC.out]; exact hpk))
        subst hr0
        clear hpk hcr
        go_wp2_with fail
        go_ret
        exact ⟨rfl, rfl⟩
      · skip
        have a0 : decide (c < 97) = false := decide_eq_false (by omega)
        have a1 : decide (122 < c) = false := decide_eq_false (by omega)
        have a2 : decide (c < 65) = false := decide_eq_false (by omega)
        have a3 : decide (90 < c) = true := decide_eq_true (by omega)
        have a4 : decide (c < 48) = false := decide_eq_false (by omega)
        have a5 : decide (57 < c) = true := decide_eq_true (by omega)
        have e0 : (c != 95) = true := by simp; omega
        have e1 : (c != 35) = true := by simp; omega
        have hpk : partI c = true := by unfold partI; simp; omega
        have HPK := Lib.hid hpk; clear hpk
        clear hcr
        go_wp2_with fail
        go_roundw
        case rel =>
          refine ⟨k + 1, by omega, by go_num, fun j hj hjk => ?_, trivial⟩
          by_cases e : j = k
          · subst e; rw [← HBK.out]; show partI _ = true; rw [← HC.out]; exact HPK.out
          · exact HK.out j hj (by omega)
        case measure => simp [intOf]; omega
      · skip
        have a0 : decide (c < 97) = false := decide_eq_false (by omega)
        have a1 : decide (122 < c) = true := decide_eq_true (by omega)
        have a2 : decide (c < 65) = false := decide_eq_false (by omega)
        have a3 : decide (90 < c) = true := decide_eq_true (by omega)
        have a4 : decide (c < 48) = false := decide_eq_false (by omega)
        have a5 : decide (57 < c) = true := decide_eq_true (by omega)
        have e0 : (c != 95) = true := by simp; omega
        have e1 : (c != 35) = true := by simp; omega
        have hpk : partI c = false := by unfold partI; simp; omega
        have hr0 : r = false := HRR.out.trans (allB_false (List.getElem_mem hlt) (by rw [← HBK.out]; show partI _ = false; rw [← HC.out]; exact hpk))
        subst hr0
        clear hpk hcr
        go_wp2_with fail
        go_ret
        exact ⟨rfl, rfl⟩
    · obtain rfl : k = l.length := by omega
      have hr1 : r = true := HRR.out.trans (allB_true fun j hj => HK.out j hj hj)
      subst hr1
      go_wp2_with fail
      go_ret
      exact ⟨rfl, rfl⟩
end Go.Proofs.YtkbkgiihgghbeaaGreatDoor
