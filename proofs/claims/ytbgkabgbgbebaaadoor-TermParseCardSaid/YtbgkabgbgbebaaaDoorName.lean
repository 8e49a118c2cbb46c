/- Bytes and names: term.part and term.isName. -/
import Derived.Test.YtbgkabgbgbebaaaDoorTm
import Derived.Test.YtbgkabgbgbebaaaDoorProg
import Derived.WalkSpells
import Derived.Lib.Hide
namespace Go.Proofs.YtbgkabgbgbebaaaDoor
open Go.RowKit

/-- a byte that can stand in a name -/
def partI (c : Int) : Bool := decide (97 ≤ c ∧ c ≤ 122) || decide (65 ≤ c ∧ c ≤ 90) || decide (48 ≤ c ∧ c ≤ 57) || c == 95 || c == 35
def partB (c : UInt8) : Bool := partI c.toNat

theorem part_0 (c : Int) (w : World) (h : c ≤ 34) : Calls Tryd.prog 87 #[.int .u8 c] w fun e w' => e = .returned (.bool (partI c)) ∧ w' = w := by
  have hp : partI c = false := by unfold partI; simp; omega
  rw [hp]
  have a0 : decide (97 ≤ c) = false := decide_eq_false (by omega)
  have a1 : decide (c ≤ 122) = true := decide_eq_true (by omega)
  have a2 : decide (65 ≤ c) = false := decide_eq_false (by omega)
  have a3 : decide (c ≤ 90) = true := decide_eq_true (by omega)
  have a4 : decide (48 ≤ c) = false := decide_eq_false (by omega)
  have a5 : decide (c ≤ 57) = true := decide_eq_true (by omega)
  have e0 : (c == 95) = false := by simp; omega
  have e1 : (c == 35) = false := by simp; omega
  clear hp h
  go_enter Tryd.func87, Tryd.ntmps87
  go_wp2_with fail
  go_ret
  exact ⟨rfl, rfl⟩
theorem part_35 (c : Int) (w : World) (h : 35 ≤ c ∧ c ≤ 35) : Calls Tryd.prog 87 #[.int .u8 c] w fun e w' => e = .returned (.bool (partI c)) ∧ w' = w := by
  have hp : partI c = true := by unfold partI; simp; omega
  rw [hp]
  have a0 : decide (97 ≤ c) = false := decide_eq_false (by omega)
  have a1 : decide (c ≤ 122) = true := decide_eq_true (by omega)
  have a2 : decide (65 ≤ c) = false := decide_eq_false (by omega)
  have a3 : decide (c ≤ 90) = true := decide_eq_true (by omega)
  have a4 : decide (48 ≤ c) = false := decide_eq_false (by omega)
  have a5 : decide (c ≤ 57) = true := decide_eq_true (by omega)
  have e0 : (c == 95) = false := by simp; omega
  have e1 : (c == 35) = true := by simp; omega
  clear hp h
  go_enter Tryd.func87, Tryd.ntmps87
  go_wp2_with fail
  go_ret
  exact ⟨rfl, rfl⟩
theorem part_36 (c : Int) (w : World) (h : 36 ≤ c ∧ c ≤ 47) : Calls Tryd.prog 87 #[.int .u8 c] w fun e w' => e = .returned (.bool (partI c)) ∧ w' = w := by
  have hp : partI c = false := by unfold partI; simp; omega
  rw [hp]
  have a0 : decide (97 ≤ c) = false := decide_eq_false (by omega)
  have a1 : decide (c ≤ 122) = true := decide_eq_true (by omega)
  have a2 : decide (65 ≤ c) = false := decide_eq_false (by omega)
  have a3 : decide (c ≤ 90) = true := decide_eq_true (by omega)
  have a4 : decide (48 ≤ c) = false := decide_eq_false (by omega)
  have a5 : decide (c ≤ 57) = true := decide_eq_true (by omega)
  have e0 : (c == 95) = false := by simp; omega
  have e1 : (c == 35) = false := by simp; omega
  clear hp h
  go_enter Tryd.func87, Tryd.ntmps87
  go_wp2_with fail
  go_ret
  exact ⟨rfl, rfl⟩
theorem part_48 (c : Int) (w : World) (h : 48 ≤ c ∧ c ≤ 57) : Calls Tryd.prog 87 #[.int .u8 c] w fun e w' => e = .returned (.bool (partI c)) ∧ w' = w := by
  have hp : partI c = true := by unfold partI; simp; omega
  rw [hp]
  have a0 : decide (97 ≤ c) = false := decide_eq_false (by omega)
  have a1 : decide (c ≤ 122) = true := decide_eq_true (by omega)
  have a2 : decide (65 ≤ c) = false := decide_eq_false (by omega)
  have a3 : decide (c ≤ 90) = true := decide_eq_true (by omega)
  have a4 : decide (48 ≤ c) = true := decide_eq_true (by omega)
  have a5 : decide (c ≤ 57) = true := decide_eq_true (by omega)
  have e0 : (c == 95) = false := by simp; omega
  have e1 : (c == 35) = false := by simp; omega
  clear hp h
  go_enter Tryd.func87, Tryd.ntmps87
  go_wp2_with fail
  go_ret
  exact ⟨rfl, rfl⟩
theorem part_58 (c : Int) (w : World) (h : 58 ≤ c ∧ c ≤ 64) : Calls Tryd.prog 87 #[.int .u8 c] w fun e w' => e = .returned (.bool (partI c)) ∧ w' = w := by
  have hp : partI c = false := by unfold partI; simp; omega
  rw [hp]
  have a0 : decide (97 ≤ c) = false := decide_eq_false (by omega)
  have a1 : decide (c ≤ 122) = true := decide_eq_true (by omega)
  have a2 : decide (65 ≤ c) = false := decide_eq_false (by omega)
  have a3 : decide (c ≤ 90) = true := decide_eq_true (by omega)
  have a4 : decide (48 ≤ c) = true := decide_eq_true (by omega)
  have a5 : decide (c ≤ 57) = false := decide_eq_false (by omega)
  have e0 : (c == 95) = false := by simp; omega
  have e1 : (c == 35) = false := by simp; omega
  clear hp h
  go_enter Tryd.func87, Tryd.ntmps87
  go_wp2_with fail
  go_ret
  exact ⟨rfl, rfl⟩
theorem part_65 (c : Int) (w : World) (h : 65 ≤ c ∧ c ≤ 90) : Calls Tryd.prog 87 #[.int .u8 c] w fun e w' => e = .returned (.bool (partI c)) ∧ w' = w := by
  have hp : partI c = true := by unfold partI; simp; omega
  rw [hp]
  have a0 : decide (97 ≤ c) = false := decide_eq_false (by omega)
  have a1 : decide (c ≤ 122) = true := decide_eq_true (by omega)
  have a2 : decide (65 ≤ c) = true := decide_eq_true (by omega)
  have a3 : decide (c ≤ 90) = true := decide_eq_true (by omega)
  have a4 : decide (48 ≤ c) = true := decide_eq_true (by omega)
  have a5 : decide (c ≤ 57) = false := decide_eq_false (by omega)
  have e0 : (c == 95) = false := by simp; omega
  have e1 : (c == 35) = false := by simp; omega
  clear hp h
  go_enter Tryd.func87, Tryd.ntmps87
  go_wp2_with fail
  go_ret
  exact ⟨rfl, rfl⟩
theorem part_91 (c : Int) (w : World) (h : 91 ≤ c ∧ c ≤ 94) : Calls Tryd.prog 87 #[.int .u8 c] w fun e w' => e = .returned (.bool (partI c)) ∧ w' = w := by
  have hp : partI c = false := by unfold partI; simp; omega
  rw [hp]
  have a0 : decide (97 ≤ c) = false := decide_eq_false (by omega)
  have a1 : decide (c ≤ 122) = true := decide_eq_true (by omega)
  have a2 : decide (65 ≤ c) = true := decide_eq_true (by omega)
  have a3 : decide (c ≤ 90) = false := decide_eq_false (by omega)
  have a4 : decide (48 ≤ c) = true := decide_eq_true (by omega)
  have a5 : decide (c ≤ 57) = false := decide_eq_false (by omega)
  have e0 : (c == 95) = false := by simp; omega
  have e1 : (c == 35) = false := by simp; omega
  clear hp h
  go_enter Tryd.func87, Tryd.ntmps87
  go_wp2_with fail
  go_ret
  exact ⟨rfl, rfl⟩
theorem part_95 (c : Int) (w : World) (h : 95 ≤ c ∧ c ≤ 95) : Calls Tryd.prog 87 #[.int .u8 c] w fun e w' => e = .returned (.bool (partI c)) ∧ w' = w := by
  have hp : partI c = true := by unfold partI; simp; omega
  rw [hp]
  have a0 : decide (97 ≤ c) = false := decide_eq_false (by omega)
  have a1 : decide (c ≤ 122) = true := decide_eq_true (by omega)
  have a2 : decide (65 ≤ c) = true := decide_eq_true (by omega)
  have a3 : decide (c ≤ 90) = false := decide_eq_false (by omega)
  have a4 : decide (48 ≤ c) = true := decide_eq_true (by omega)
  have a5 : decide (c ≤ 57) = false := decide_eq_false (by omega)
  have e0 : (c == 95) = true := by simp; omega
  have e1 : (c == 35) = false := by simp; omega
  clear hp h
  go_enter Tryd.func87, Tryd.ntmps87
  go_wp2_with fail
  go_ret
  exact ⟨rfl, rfl⟩
theorem part_96 (c : Int) (w : World) (h : 96 ≤ c ∧ c ≤ 96) : Calls Tryd.prog 87 #[.int .u8 c] w fun e w' => e = .returned (.bool (partI c)) ∧ w' = w := by
  have hp : partI c = false := by unfold partI; simp; omega
  rw [hp]
  have a0 : decide (97 ≤ c) = false := decide_eq_false (by omega)
  have a1 : decide (c ≤ 122) = true := decide_eq_true (by omega)
  have a2 : decide (65 ≤ c) = true := decide_eq_true (by omega)
  have a3 : decide (c ≤ 90) = false := decide_eq_false (by omega)
  have a4 : decide (48 ≤ c) = true := decide_eq_true (by omega)
  have a5 : decide (c ≤ 57) = false := decide_eq_false (by omega)
  have e0 : (c == 95) = false := by simp; omega
  have e1 : (c == 35) = false := by simp; omega
  clear hp h
  go_enter Tryd.func87, Tryd.ntmps87
  go_wp2_with fail
  go_ret
  exact ⟨rfl, rfl⟩
theorem part_97 (c : Int) (w : World) (h : 97 ≤ c ∧ c ≤ 122) : Calls Tryd.prog 87 #[.int .u8 c] w fun e w' => e = .returned (.bool (partI c)) ∧ w' = w := by
  have hp : partI c = true := by unfold partI; simp; omega
  rw [hp]
  have a0 : decide (97 ≤ c) = true := decide_eq_true (by omega)
  have a1 : decide (c ≤ 122) = true := decide_eq_true (by omega)
  have a2 : decide (65 ≤ c) = true := decide_eq_true (by omega)
  have a3 : decide (c ≤ 90) = false := decide_eq_false (by omega)
  have a4 : decide (48 ≤ c) = true := decide_eq_true (by omega)
  have a5 : decide (c ≤ 57) = false := decide_eq_false (by omega)
  have e0 : (c == 95) = false := by simp; omega
  have e1 : (c == 35) = false := by simp; omega
  clear hp h
  go_enter Tryd.func87, Tryd.ntmps87
  go_wp2_with fail
  go_ret
  exact ⟨rfl, rfl⟩
theorem part_123 (c : Int) (w : World) (h : 123 ≤ c) : Calls Tryd.prog 87 #[.int .u8 c] w fun e w' => e = .returned (.bool (partI c)) ∧ w' = w := by
  have hp : partI c = false := by unfold partI; simp; omega
  rw [hp]
  have a0 : decide (97 ≤ c) = true := decide_eq_true (by omega)
  have a1 : decide (c ≤ 122) = false := decide_eq_false (by omega)
  have a2 : decide (65 ≤ c) = true := decide_eq_true (by omega)
  have a3 : decide (c ≤ 90) = false := decide_eq_false (by omega)
  have a4 : decide (48 ≤ c) = true := decide_eq_true (by omega)
  have a5 : decide (c ≤ 57) = false := decide_eq_false (by omega)
  have e0 : (c == 95) = false := by simp; omega
  have e1 : (c == 35) = false := by simp; omega
  clear hp h
  go_enter Tryd.func87, Tryd.ntmps87
  go_wp2_with fail
  go_ret
  exact ⟨rfl, rfl⟩
theorem part_any (c : Int) (w : World) : Calls Tryd.prog 87 #[.int .u8 c] w fun e w' => e = .returned (.bool (partI c)) ∧ w' = w := by
  by_cases h0 : c ≤ 34
  · exact part_0 c w h0
  by_cases h35 : c ≤ 35
  · exact part_35 c w (by omega)
  by_cases h36 : c ≤ 47
  · exact part_36 c w (by omega)
  by_cases h48 : c ≤ 57
  · exact part_48 c w (by omega)
  by_cases h58 : c ≤ 64
  · exact part_58 c w (by omega)
  by_cases h65 : c ≤ 90
  · exact part_65 c w (by omega)
  by_cases h91 : c ≤ 94
  · exact part_91 c w (by omega)
  by_cases h95 : c ≤ 95
  · exact part_95 c w (by omega)
  by_cases h96 : c ≤ 96
  · exact part_96 c w (by omega)
  by_cases h97 : c ≤ 122
  · exact part_97 c w (by omega)
  exact part_123 c w (by omega)

/-- a byte that can begin a name -/
def startI (c : Int) : Bool := decide (97 ≤ c ∧ c ≤ 122) || decide (65 ≤ c ∧ c ≤ 90)
def startB (c : UInt8) : Bool := startI c.toNat
/-- a name: at most 24 bytes -/
def nameL (l : List UInt8) : Bool := decide (l.length ≤ 24) && (match l with | [] => false | b :: _ => startB b) && l.all partB

theorem size_list (s : ByteArray) : s.size = s.data.toList.length := (Array.length_toList (xs := s.data)).symm

theorem nameL_false {l : List UInt8} (h : 24 < l.length ∨ l = [] ∨ (∃ h : 0 < l.length, startB l[0] = false) ∨ ∃ b ∈ l, partB b = false) : nameL l = false := by
  unfold nameL
  rcases h with h | h | ⟨h0, h⟩ | ⟨b, hb, h⟩
  · rw [decide_eq_false (by omega)]; rfl
  · subst h; simp
  · match l, h0, h with
    | b :: r, _, h => simp only [List.getElem_cons_zero] at h; simp [h]
  · have : l.all partB = false := by
      rw [Bool.eq_false_iff]; intro h2; have := List.all_eq_true.1 h2 b hb; rw [h] at this; cases this
    rw [this, Bool.and_false]
theorem nameL_true {l : List UInt8} (h1 : l.length ≤ 24) (h0 : 0 < l.length) (h : startB l[0] = true) (h2 : ∀ k, (h : k < l.length) → partB l[k] = true) : nameL l = true := by
  unfold nameL
  have : l.all partB = true := by
    rw [List.all_eq_true]
    intro b hb
    obtain ⟨k, hk, rfl⟩ := List.getElem_of_mem hb
    exact h2 k hk
  rw [this, decide_eq_true h1]
  match l, h0, h with
  | b :: r, _, h => simp only [List.getElem_cons_zero] at h; simp [h]
theorem start_of {c : Int} (h : partI c = true) (h1 : ¬ (48 ≤ c ∧ c ≤ 57)) (h2 : c ≠ 95) (h3 : c ≠ 35) : startI c = true := by
  unfold partI at h; unfold startI
  simp only [Bool.or_eq_true, decide_eq_true_eq, beq_iff_eq] at h ⊢
  omega
theorem start_not {c : Int} (h : partI c = false ∨ (48 ≤ c ∧ c ≤ 57) ∨ c = 95 ∨ c = 35) : startI c = false := by
  unfold partI at h; unfold startI
  rw [Bool.eq_false_iff]
  intro hc
  simp only [Bool.or_eq_true, decide_eq_true_eq] at hc
  rcases h with h | h | h | h
  · simp only [Bool.or_eq_false_iff, decide_eq_false_iff_not] at h; omega
  all_goals omega

set_option maxHeartbeats 1000000 in
theorem isName_any (s : ByteArray) (w : World) (hs : s.size ≤ maxLen) : Calls Tryd.prog 75 #[.string s] w fun e w' => e = .returned (.bool (nameL s.data.toList)) ∧ w' = w := by
  obtain ⟨l, hl⟩ : ∃ l, l = s.data.toList := ⟨_, rfl⟩
  have hsz : s.size = l.length := by rw [hl]; exact size_list s
  have hat : ∀ k, (h : k < l.length) → ∃ h' : k < s.size, s[k] = l[k] := fun k h => ⟨by omega, by subst hl; rfl⟩
  have hE : s.toList.isEmpty = l.isEmpty := by rw [ByteArray.toList_eq, hl]
  rw [← hl]
  clear hl
  have PA := Lib.hid part_any
  have HAT := Lib.hid hat; clear hat
  unfold maxLen at hs
  obtain ⟨r, hr⟩ : ∃ r, r = nameL l := ⟨_, rfl⟩
  rw [← hr]
  have HRR := Lib.hid hr; clear hr
  by_cases h0 : l = []
  · have e : r = false := by rw [HRR.out]; exact nameL_false (.inr (.inl h0))
    subst e
    have hE' : s.toList.isEmpty = true := by rw [hE, h0]; rfl
    clear hE hsz h0 HAT HRR
    go_enter Tryd.func75, Tryd.ntmps75
    go_wp2_with fail
    go_ret
    exact ⟨rfl, rfl⟩
  · have hpos : 0 < l.length := List.length_pos_iff.2 h0
    have hE' : s.toList.isEmpty = false := by rw [hE]; simpa using h0
    obtain ⟨hps, hb0⟩ := HAT.out 0 hpos
    clear hE
    by_cases h24 : 24 < l.length
    · have e : r = false := by rw [HRR.out]; exact nameL_false (.inl h24)
      subst e
      clear HAT HRR
      have hd : decide (24 < (l.length : Int)) = true := decide_eq_true (by omega)
      go_enter Tryd.func75, Tryd.ntmps75
      go_wp2_with fail
      go_ret
      exact ⟨rfl, rfl⟩
    · have hd : decide (24 < (l.length : Int)) = false := decide_eq_false (by omega)
      obtain ⟨b0, hb⟩ : ∃ b0, b0 = l[0] := ⟨_, rfl⟩
      rw [← hb] at hb0
      have HB := Lib.hid hb; clear hb
      by_cases hp : partI (b0.toNat : Int) = false
      · have e : r = false := by rw [HRR.out]; exact nameL_false (.inr (.inr (.inl ⟨hpos, by rw [← HB.out]; exact start_not (.inl hp)⟩)))
        subst e
        clear HAT HRR
        go_enter Tryd.func75, Tryd.ntmps75
        go_wp2_with (go_at_call 87; refine (PA.out _ _).mono ?_; rintro e w1 ⟨rfl, rfl⟩)
        go_ret
        exact ⟨rfl, rfl⟩
      · have hp' : partI (b0.toNat : Int) = true := by simpa using hp
        clear hp
        have hcase : (48 ≤ (b0.toNat : Int) ∧ (b0.toNat : Int) ≤ 57) ∨ (b0.toNat : Int) = 95 ∨ (b0.toNat : Int) = 35 ∨ (¬ (48 ≤ (b0.toNat : Int) ∧ (b0.toNat : Int) ≤ 57) ∧ (b0.toNat : Int) ≠ 95 ∧ (b0.toNat : Int) ≠ 35) := by omega
        rcases hcase with hc | hc | hc | ⟨hc1, hc2, hc3⟩
        · have e : r = false := by rw [HRR.out]; exact nameL_false (.inr (.inr (.inl ⟨hpos, by rw [← HB.out]; exact start_not (.inr (.inl hc))⟩)))
          subst e
          have d1 : decide (48 ≤ (b0.toNat : Int)) = true := decide_eq_true hc.1
          have d2 : decide ((b0.toNat : Int) ≤ 57) = true := decide_eq_true hc.2
          clear HAT HRR
          go_enter Tryd.func75, Tryd.ntmps75
          go_wp2_with (go_at_call 87; refine (PA.out _ _).mono ?_; rintro e w1 ⟨rfl, rfl⟩)
          go_ret
          exact ⟨rfl, rfl⟩
        · have e : r = false := by rw [HRR.out]; exact nameL_false (.inr (.inr (.inl ⟨hpos, by rw [← HB.out]; exact start_not (.inr (.inr (.inl hc)))⟩)))
          subst e
          have d1 : decide (48 ≤ (b0.toNat : Int)) = true := decide_eq_true (by omega)
          have d2 : decide ((b0.toNat : Int) ≤ 57) = false := decide_eq_false (by omega)
          have d3 : ((b0.toNat : Int) == 95) = true := by simpa using hc
          clear HAT HRR
          go_enter Tryd.func75, Tryd.ntmps75
          go_wp2_with (go_at_call 87; refine (PA.out _ _).mono ?_; rintro e w1 ⟨rfl, rfl⟩)
          go_ret
          exact ⟨rfl, rfl⟩
        · have e : r = false := by rw [HRR.out]; exact nameL_false (.inr (.inr (.inl ⟨hpos, by rw [← HB.out]; exact start_not (.inr (.inr (.inr hc)))⟩)))
          subst e
          have d1 : decide (48 ≤ (b0.toNat : Int)) = false := decide_eq_false (by omega)
          have d3 : ((b0.toNat : Int) == 95) = false := by simp; omega
          have d4 : ((b0.toNat : Int) == 35) = true := by simpa using hc
          clear HAT HRR
          go_enter Tryd.func75, Tryd.ntmps75
          go_wp2_with (go_at_call 87; refine (PA.out _ _).mono ?_; rintro e w1 ⟨rfl, rfl⟩)
          go_ret
          exact ⟨rfl, rfl⟩
        · have d3 : ((b0.toNat : Int) == 95) = false := by simpa using hc2
          have d4 : ((b0.toNat : Int) == 35) = false := by simpa using hc3
          have HST := Lib.hid (start_of hp' hc1 hc2 hc3)
          have hcc : (48 ≤ (b0.toNat : Int) ∧ 57 < (b0.toNat : Int)) ∨ (b0.toNat : Int) < 48 := by omega
          clear hc1 hc2 hc3
          have hdd : (decide (48 ≤ (b0.toNat : Int)) = true ∧ decide ((b0.toNat : Int) ≤ 57) = false) ∨ decide (48 ≤ (b0.toNat : Int)) = false := by
            rcases hcc with h | h
            · exact .inl ⟨decide_eq_true h.1, decide_eq_false (by omega)⟩
            · exact .inr (decide_eq_false (by omega))
          clear hcc
          go_enter Tryd.func75, Tryd.ntmps75
          rcases hdd with ⟨d1, d2⟩ | d1
          all_goals
            go_wp2_with (go_at_call 87; refine (PA.out _ _).mono ?_; rintro e w1 ⟨rfl, rfl⟩)
            go_loopw [39] (fun i wr => ∃ k : Nat, k ≤ l.length ∧ i = .int .i64 k ∧ Hid (∀ j, (h : j < l.length) → j < k → partB l[j] = true) ∧ wr = w1) (fun i _ => l.length - (intOf i).toNat)
            case atStart => exact ⟨0, Nat.zero_le _, rfl, fun j _ h => absurd h (Nat.not_lt_zero j), rfl⟩
            case round =>
              obtain ⟨k, hk, rfl, HK, rfl⟩ := hrel
              by_cases hlt : k < l.length
              · obtain ⟨hks, hbk⟩ := HAT.out k hlt
                obtain ⟨bk, hbk'⟩ : ∃ bk, bk = l[k] := ⟨_, rfl⟩
                rw [← hbk'] at hbk
                have HBK := Lib.hid hbk'; clear hbk'
                by_cases hpk : partI (bk.toNat : Int) = true
                · go_wp2_with (go_at_call 87; refine (PA.out _ _).mono ?_; rintro e w1 ⟨rfl, rfl⟩)
                  go_roundw
                  case rel =>
                    refine ⟨k + 1, by omega, by go_num, fun j hj hjk => ?_, trivial⟩
                    by_cases e : j = k
                    · subst e; rw [← HBK.out]; exact hpk
                    · exact HK.out j hj (by omega)
                  case measure => simp [intOf]; omega
                · have hpk' : partI (bk.toNat : Int) = false := by simpa using hpk
                  have hr0 := Lib.hid (HRR.out.trans (nameL_false (l := l) (.inr (.inr (.inr ⟨l[k], List.getElem_mem _, by rw [← HBK.out]; exact hpk'⟩)))))
                  go_wp2_with (go_at_call 87; refine (PA.out _ _).mono ?_; rintro e w1 ⟨rfl, rfl⟩)
                  go_ret
                  exact ⟨by rw [hr0.out]; rfl, rfl⟩
              · obtain rfl : k = l.length := by omega
                have hr1 := Lib.hid (HRR.out.trans (nameL_true (l := l) (by omega) hpos (by rw [← HB.out]; exact HST.out) (fun j hj => HK.out j hj hj)))
                go_wp2_with fail
                go_ret
                exact ⟨by rw [hr1.out]; rfl, rfl⟩
end Go.Proofs.YtbgkabgbgbebaaaDoor
