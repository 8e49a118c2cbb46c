/- The reference's plain. -/
import Derived.Test.YtkbkgiihgghbeaaGreatDoorSzlonger
namespace Go.Proofs.YtkbkgiihgghbeaaGreatDoor
open Go.RowKit Go.Sort

theorem nameL_one (s : ByteArray) (k : Nat) (h : k < s.data.toList.length) : nameL ((⟨#[97]⟩ : ByteArray) ++ s.extract k (k + 1)).data.toList = partB (s.data.toList[k]) := by
  have e : ((⟨#[97]⟩ : ByteArray) ++ s.extract k (k + 1)).data.toList = [97, s.data.toList[k]] := by
    rw [ByteArray.data_append, Array.toList_append, extract_list, List.drop_eq_getElem_cons h]
    simp
  rw [e]
  simp only [nameL, List.all_cons, List.all_nil, Bool.and_true, List.length_cons, List.length_nil]
  have h1 : startB 97 = true := by decide
  have h2 : partB 97 = true := by decide
  rw [h1, h2]
  simp

set_option maxHeartbeats 1000000 in
theorem rplain_any (s : ByteArray) (w : World) (hs : s.size ≤ 1000) : Calls Tryz.prog 32 #[.string s] w fun e w' => e = .returned (.bool (s.data.toList.all partB)) ∧ w' = w := by
  obtain ⟨l, hl⟩ : ∃ l, l = s.data.toList := ⟨_, rfl⟩
  have hsz : s.size = l.length := by rw [hl]; exact size_list s
  have HN : Hid (∀ k, (h : k < l.length) → Calls Tryz.prog 61 #[.string ((⟨#[97]⟩ : ByteArray) ++ s.extract k (k + 1))] w fun e w' => e = .returned (.bool (partB l[k])) ∧ w' = w) := Lib.hid fun k h => by
    have := risName_any ((⟨#[97]⟩ : ByteArray) ++ s.extract k (k + 1)) w (by rw [ByteArray.size_append, ByteArray.size_extract]; unfold maxLen; have : (⟨#[97]⟩ : ByteArray).size = 1 := rfl; omega)
    subst hl
    rw [nameL_one s k h] at this
    exact this
  have hex : ∀ k, (s.extract k (k + 1)).size ≤ 1 := fun k => by rw [ByteArray.size_extract]; omega
  have h1 : (⟨#[97]⟩ : ByteArray).size = 1 := rfl
  rw [← hl]
  clear hl
  obtain ⟨r, hr⟩ : ∃ r, r = l.all partB := ⟨_, rfl⟩
  rw [← hr]
  have HRR := Lib.hid hr; clear hr
  go_enter Tryz.func32, Tryz.ntmps32
  go_wp2_with fail
  go_loopw [3] (fun i wr => ∃ k : Nat, k ≤ l.length ∧ i = .int .i64 k ∧ Hid (∀ j, (h : j < l.length) → j < k → partB l[j] = true) ∧ wr = w) (fun i _ => l.length - (intOf i).toNat)
  case atStart => exact ⟨0, Nat.zero_le _, rfl, fun j _ h => absurd h (Nat.not_lt_zero j), rfl⟩
  case round =>
    obtain ⟨k, hk, rfl, HK, rfl⟩ := hrel
    have i1 : (0 : Int) ≤ (k : Int) := Int.natCast_nonneg _
    by_cases hlt : k < l.length
    · have i2 : (k : Int) < (l.length : Int) := by omega
      have hx := hex k
      have HC := HN.out k hlt
      obtain ⟨q, hq⟩ : ∃ q, q = partB l[k] := ⟨_, rfl⟩
      rw [← hq] at HC
      have HQ := Lib.hid hq; clear hq
      have HC := Lib.hid HC
      cases q with
      | true =>
        go_wp2_with fail
        refine HC.out.mono ?_
        rintro e w1 ⟨rfl, rfl⟩
        go_wp2_with fail
        go_roundw
        case rel =>
          refine ⟨k + 1, by omega, by go_num, fun j hj hjk => ?_, trivial⟩
          by_cases e : j = k
          · subst e; exact HQ.out.symm
          · exact HK.out j hj (by omega)
        case measure => simp [intOf]; omega
      | false =>
        have hr0 : r = false := HRR.out.trans (allB_false (List.getElem_mem hlt) HQ.out.symm)
        subst hr0
        go_wp2_with fail
        refine HC.out.mono ?_
        rintro e w1 ⟨rfl, rfl⟩
        go_wp2_with fail
        go_ret
        exact ⟨rfl, rfl⟩
    · obtain rfl : k = l.length := by omega
      have hr1 : r = true := HRR.out.trans (allB_true fun j hj => HK.out j hj hj)
      subst hr1
      go_wp2_with fail
      go_ret
      exact ⟨rfl, rfl⟩
end Go.Proofs.YtkbkgiihgghbeaaGreatDoor
