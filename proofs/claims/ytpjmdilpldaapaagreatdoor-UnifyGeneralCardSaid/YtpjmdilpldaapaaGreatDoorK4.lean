/- Ge, Sfits, Sbind (joined by shake.py). -/
import Derived.Test.YtpjmdilpldaapaaGreatDoorK2
import Derived.Test.YtpjmdilpldaapaaGreatDoorK3
set_option maxRecDepth 100000
namespace Go.Proofs.YtpjmdilpldaapaaGreatDoor
open Go.RowKit
open Go.RowKit
def digI (c : Int) : Bool := decide (48 ≤ c ∧ c ≤ 57)
theorem letter_0 (c : Int) (w : World) (h : c ≤ 64) : Calls Tryz.prog 116 #[.int .u8 c] w fun e w' => e = .returned (.bool (qbh c)) ∧ w' = w := by
 have hp : (qbh c) = false := by unfold qbh; simp; omega
 rw [hp];have a0 : decide (97 ≤ c) = false := decide_eq_false (by omega);have a1 : decide (c ≤ 122) = true := decide_eq_true (by omega);have a2 : decide (65 ≤ c) = false := decide_eq_false (by omega);have a3 : decide (c ≤ 90) = true := decide_eq_true (by omega);clear hp h;go_enter Tryz.func116, Tryz.ntmps116
 go_wp2_with fail
 go_ret
 exact ⟨rfl, rfl⟩
theorem letter_65 (c : Int) (w : World) (h : 65 ≤ c ∧ c ≤ 90) : Calls Tryz.prog 116 #[.int .u8 c] w fun e w' => e = .returned (.bool (qbh c)) ∧ w' = w := by
 have hp : (qbh c) = true := by unfold qbh; simp; omega
 rw [hp];have a0 : decide (97 ≤ c) = false := decide_eq_false (by omega);have a1 : decide (c ≤ 122) = true := decide_eq_true (by omega);have a2 : decide (65 ≤ c) = true := decide_eq_true (by omega);have a3 : decide (c ≤ 90) = true := decide_eq_true (by omega);clear hp h;go_enter Tryz.func116, Tryz.ntmps116
 go_wp2_with fail
 go_ret
 exact ⟨rfl, rfl⟩
theorem letter_91 (c : Int) (w : World) (h : 91 ≤ c ∧ c ≤ 96) : Calls Tryz.prog 116 #[.int .u8 c] w fun e w' => e = .returned (.bool (qbh c)) ∧ w' = w := by
 have hp : (qbh c) = false := by unfold qbh; simp; omega
 rw [hp];have a0 : decide (97 ≤ c) = false := decide_eq_false (by omega);have a1 : decide (c ≤ 122) = true := decide_eq_true (by omega);have a2 : decide (65 ≤ c) = true := decide_eq_true (by omega);have a3 : decide (c ≤ 90) = false := decide_eq_false (by omega);clear hp h;go_enter Tryz.func116, Tryz.ntmps116
 go_wp2_with fail
 go_ret
 exact ⟨rfl, rfl⟩
theorem letter_97 (c : Int) (w : World) (h : 97 ≤ c ∧ c ≤ 122) : Calls Tryz.prog 116 #[.int .u8 c] w fun e w' => e = .returned (.bool (qbh c)) ∧ w' = w := by
 have hp : (qbh c) = true := by unfold qbh; simp; omega
 rw [hp];have a0 : decide (97 ≤ c) = true := decide_eq_true (by omega);have a1 : decide (c ≤ 122) = true := decide_eq_true (by omega);have a2 : decide (65 ≤ c) = true := decide_eq_true (by omega);have a3 : decide (c ≤ 90) = false := decide_eq_false (by omega);clear hp h;go_enter Tryz.func116, Tryz.ntmps116
 go_wp2_with fail
 go_ret
 exact ⟨rfl, rfl⟩
theorem qmo (c : Int) (w : World) (h : 123 ≤ c) : Calls Tryz.prog 116 #[.int .u8 c] w fun e w' => e = .returned (.bool (qbh c)) ∧ w' = w := by
 have hp : (qbh c) = false := by unfold qbh; simp; omega
 rw [hp];have a0 : decide (97 ≤ c) = true := decide_eq_true (by omega);have a1 : decide (c ≤ 122) = false := decide_eq_false (by omega);have a2 : decide (65 ≤ c) = true := decide_eq_true (by omega);have a3 : decide (c ≤ 90) = false := decide_eq_false (by omega);clear hp h;go_enter Tryz.func116, Tryz.ntmps116
 go_wp2_with fail
 go_ret
 exact ⟨rfl, rfl⟩
theorem qmn (c : Int) (w : World) : Calls Tryz.prog 116 #[.int .u8 c] w fun e w' => e = .returned (.bool (qbh c)) ∧ w' = w := by
 by_cases h0 : c ≤ 64
 ·exact letter_0 c w (by omega)
 by_cases h65 : c ≤ 90
 ·exact letter_65 c w (by omega)
 by_cases h91 : c ≤ 96
 ·exact letter_91 c w (by omega)
 by_cases h97 : c ≤ 122
 ·exact letter_97 c w (by omega)
 exact qmo c w (by omega)
theorem digit_0 (c : Int) (w : World) (h : c ≤ 47) : Calls Tryz.prog 117 #[.int .u8 c] w fun e w' => e = .returned (.bool (digI c)) ∧ w' = w := by
 have hp : (digI c) = false := by unfold digI; simp; omega
 rw [hp];have a0 : decide (48 ≤ c) = false := decide_eq_false (by omega);have a1 : decide (c ≤ 57) = true := decide_eq_true (by omega);clear hp h;go_enter Tryz.func117, Tryz.ntmps117
 go_wp2_with fail
 go_ret
 exact ⟨rfl, rfl⟩
theorem digit_48 (c : Int) (w : World) (h : 48 ≤ c ∧ c ≤ 57) : Calls Tryz.prog 117 #[.int .u8 c] w fun e w' => e = .returned (.bool (digI c)) ∧ w' = w := by
 have hp : (digI c) = true := by unfold digI; simp; omega
 rw [hp];have a0 : decide (48 ≤ c) = true := decide_eq_true (by omega);have a1 : decide (c ≤ 57) = true := decide_eq_true (by omega);clear hp h;go_enter Tryz.func117, Tryz.ntmps117
 go_wp2_with fail
 go_ret
 exact ⟨rfl, rfl⟩
theorem digit_58 (c : Int) (w : World) (h : 58 ≤ c) : Calls Tryz.prog 117 #[.int .u8 c] w fun e w' => e = .returned (.bool (digI c)) ∧ w' = w := by
 have hp : (digI c) = false := by unfold digI; simp; omega
 rw [hp];have a0 : decide (48 ≤ c) = true := decide_eq_true (by omega);have a1 : decide (c ≤ 57) = false := decide_eq_false (by omega);clear hp h;go_enter Tryz.func117, Tryz.ntmps117
 go_wp2_with fail
 go_ret
 exact ⟨rfl, rfl⟩
theorem digit_any (c : Int) (w : World) : Calls Tryz.prog 117 #[.int .u8 c] w fun e w' => e = .returned (.bool (digI c)) ∧ w' = w := by
 by_cases h0 : c ≤ 47
 ·exact digit_0 c w (by omega)
 by_cases h48 : c ≤ 57
 ·exact digit_48 c w (by omega)
 exact digit_58 c w (by omega)
theorem qmg (c : Int) : (qa8 c = true ∧ qbh c = true) ∨ (qa8 c = true ∧ qbh c = false ∧ digI c = true) ∨ (qa8 c = true ∧ qbh c = false ∧ digI c = false ∧ (c == 95) = true ∧ (c != 95) = false) ∨
  (qa8 c = true ∧ qbh c = false ∧ digI c = false ∧ (c == 95) = false ∧ (c == 35) = true ∧ (c != 95) = true ∧ (c != 35) = false) ∨ (qa8 c = false ∧ qbh c = false ∧ digI c = false ∧ (c == 95) = false ∧ (c == 35) = false ∧ (c != 95) = true ∧ (c != 35) = true) := by
 have e : qa8 c = (qbh c || digI c || (c == 95) || (c == 35)) := by
  unfold qa8 qbh digI; simp only [Bool.or_assoc]
 rw [e];unfold bne;cases qbh c <;> cases digI c <;> cases (c == 95) <;> cases (c == 35) <;> simp
set_option maxHeartbeats 2000000 in
theorem qke (s : ByteArray) (w : World) (hs : s.size ≤ maxLen) : Calls Tryz.prog 101 #[.string s] w fun e w' => e = .returned (.bool (qco s.data.toList)) ∧ w' = w := by
 obtain ⟨l, hl⟩ : ∃ l, l = s.data.toList := ⟨_, rfl⟩;have hsz : s.size = l.length := by rw [hl]; exact qex s
 have hat : ∀ k, (h : k < l.length) → ∃ h' : k < s.size, s[k] = l[k] := fun k h => ⟨by omega, by subst hl; rfl⟩;rw [← hl];clear hl;have LE := Lib.hid qmn;have DI := Lib.hid digit_any;have HAT := Lib.hid hat; clear hat;unfold maxLen at hs;obtain ⟨r, hr⟩ : ∃ r, r = qco l := ⟨_, rfl⟩;rw [← hr];have HRR := Lib.hid hr; clear hr;by_cases h0 : l = []
 ·have e : r = false := by rw [HRR.out]; exact qbe (.inr (.inl h0))
  subst e;have hd : decide ((l.length : Int) = 0) = true := decide_eq_true (by rw [h0]; rfl);have hd' : ((l.length : Int) == 0) = true := by rw [h0]; rfl
  clear h0 HAT HRR;go_enter Tryz.func101, Tryz.ntmps101
  go_wp2_with fail
  go_ret
  exact ⟨rfl, rfl⟩
 ·have hpos : 0 < l.length := List.length_pos_iff.2 h0;have hz : decide ((l.length : Int) = 0) = false := decide_eq_false (by omega);have hz' : ((l.length : Int) == 0) = false := by rw [beq_eq_false_iff_ne]; omega
  obtain ⟨hps, hb0⟩ := HAT.out 0 hpos;by_cases h24 : 24 < l.length
  ·have e : r = false := by rw [HRR.out]; exact qbe (.inl h24)
   subst e;clear HAT HRR;have hd : decide (24 < (l.length : Int)) = true := decide_eq_true (by omega);go_enter Tryz.func101, Tryz.ntmps101
   go_wp2_with fail
   go_ret
   exact ⟨rfl, rfl⟩
  ·have hd : decide (24 < (l.length : Int)) = false := decide_eq_false (by omega);obtain ⟨b0, hb⟩ : ∃ b0, b0 = l[0] := ⟨_, rfl⟩;rw [← hb] at hb0;have HB := Lib.hid hb; clear hb
   cases hp : qbh (b0.toNat : Int) with
   | false =>
    have e : r = false := by rw [HRR.out]; exact qbe (.inr (.inr (.inl ⟨hpos, by rw [← HB.out]; exact hp⟩)))
    subst e;clear HAT HRR;go_enter Tryz.func101, Tryz.ntmps101
    go_wp2_with (first | (go_at_call 116; refine (LE.out _ _).mono ?_; rintro e w1 ⟨rfl, rfl⟩) | (go_at_call 117; refine (DI.out _ _).mono ?_; rintro e w1 ⟨rfl, rfl⟩))
    go_ret
    exact ⟨rfl, rfl⟩
   | true =>
    have HST := Lib.hid hp;go_enter Tryz.func101, Tryz.ntmps101
    go_wp2_with (first | (go_at_call 116; refine (LE.out _ _).mono ?_; rintro e w1 ⟨rfl, rfl⟩) | (go_at_call 117; refine (DI.out _ _).mono ?_; rintro e w1 ⟨rfl, rfl⟩))
    go_loopw [3] (fun i wr => ∃ k : Nat, k ≤ l.length ∧ i = .int .i64 k ∧ Hid (∀ j, (h : j < l.length) → j < k → qdw l[j] = true) ∧ wr = w1) (fun i _ => l.length - (intOf i).toNat)
    case atStart => exact ⟨0, Nat.zero_le _, rfl, fun j _ h => absurd h (Nat.not_lt_zero j), rfl⟩
    case round =>
     obtain ⟨k, hk, rfl, HK, rfl⟩ := hrel;clear hp;by_cases hlt : k < l.length
     ·obtain ⟨hks, hbk⟩ := HAT.out k hlt;obtain ⟨bk, hbk'⟩ : ∃ bk, bk = l[k] := ⟨_, rfl⟩;rw [← hbk'] at hbk;have HBK := Lib.hid hbk'; clear hbk';have yes : Hid (qa8 (bk.toNat : Int) = true → ∀ j, (h : j < l.length) → j < k + 1 → qdw l[j] = true) := fun hpk j hj hjk => by
       by_cases e : j = k
       ·subst e; rw [← HBK.out]; exact hpk
       ·exact HK.out j hj (by omega)
      rcases qmg (bk.toNat : Int) with ⟨p, c1⟩ | ⟨p, c1, c2⟩ | ⟨p, c1, c2, c3, n3⟩ | ⟨p, c1, c2, c3, c4, n3, n4⟩ | ⟨p, c1, c2, c3, c4, n3, n4⟩
      iterate 4
       ·have HP := Lib.hid p; clear p;go_wp2_with (first | (go_at_call 116; refine (LE.out _ _).mono ?_; rintro e w1 ⟨rfl, rfl⟩) | (go_at_call 117; refine (DI.out _ _).mono ?_; rintro e w1 ⟨rfl, rfl⟩))
        go_roundw
        case rel => exact ⟨k + 1, by omega, by go_num, yes.out HP.out, trivial⟩
        case measure => simp [intOf]; omega
      ·have hr0 := Lib.hid (HRR.out.trans (qbe (l := l) (.inr (.inr (.inr ⟨l[k], List.getElem_mem _, by rw [← HBK.out]; exact p⟩)))));clear p;go_wp2_with (first | (go_at_call 116; refine (LE.out _ _).mono ?_; rintro e w1 ⟨rfl, rfl⟩) | (go_at_call 117; refine (DI.out _ _).mono ?_; rintro e w1 ⟨rfl, rfl⟩))
       go_ret
       exact ⟨by rw [hr0.out]; rfl, rfl⟩
     ·obtain rfl : k = l.length := by omega
      have hr1 := Lib.hid (HRR.out.trans (qhk (l := l) (by omega) hpos (by rw [← HB.out]; exact HST.out) (fun j hj => HK.out j hj hj)));go_wp2_with fail
      go_ret
      exact ⟨by rw [hr1.out]; rfl, rfl⟩
def qfx (k s : Int) (nm : ByteArray) (m : Nat) : Int :=
 if (k ≠ 1 ∧ k ≠ 2 ∧ k ≠ 3) ∨ s < 0 ∨ 5 < s ∨ (k ≠ 1 ∧ k ≠ 2 ∧ s ≠ 0) ∨ ((k = 1 ∨ k = 2) ∧ m ≠ 0) then 1 else if qco nm.data.toList = false then 2 else if 8 < m then 3 else 0
theorem Tm.check_node (t : Tm) : t.check = if qfx t.kind t.sort t.name t.kids.length ≠ 0 then qfx t.kind t.sort t.name t.kids.length else Tm.checks t.kids := by
 obtain ⟨k, n, s, l⟩ := t;show (Tm.mk k n s l).check = if qfx k s n l.length ≠ 0 then qfx k s n l.length else Tm.checks l
 rw [Tm.check];obtain ⟨N, hN⟩ : ∃ N, N = qfx k s n l.length := ⟨_, rfl⟩;rw [← hN];unfold qfx at hN;by_cases h1 : k = 1 ∨ k = 2
 ·rw [if_pos h1];by_cases h2 : s < 0 ∨ 5 < s ∨ l ≠ []
  ·have e : N = 1 := hN.trans (if_pos (by
    rcases h2 with h | h | h
    ·exact .inr (.inl h)
    ·exact .inr (.inr (.inl h))
    ·exact .inr (.inr (.inr (.inr ⟨h1, fun e => h (List.length_eq_zero_iff.1 e)⟩)))))
   subst e;rw [if_pos h2]; rfl
  ·have hl : l = [] := Classical.byContradiction fun h => h2 (.inr (.inr h));subst hl;rw [if_neg h2];have hN := hN.trans (if_neg (by simp only [List.length_nil]; intro h; exact h2 (by omega)));by_cases h3 : qco n.data.toList = false
   ·have e : N = 2 := hN.trans (if_pos h3);subst e; rw [if_pos h3]; rfl
   ·have e : N = 0 := hN.trans ((if_neg h3).trans (if_neg (by simp)));subst e; rw [if_neg h3]; rfl
 ·rw [if_neg h1];by_cases h3 : k = 3
  ·rw [if_pos h3];by_cases h4 : s ≠ 0
   ·have e : N = 1 := hN.trans (if_pos (by omega));subst e; rw [if_pos h4]; rfl
   ·rw [if_neg h4];have hN := hN.trans (if_neg (by omega));by_cases h5 : qco n.data.toList = false
    ·have e : N = 2 := hN.trans (if_pos h5);subst e; rw [if_pos h5]; rfl
    ·rw [if_neg h5];have hN := hN.trans (if_neg h5);by_cases h6 : 8 < l.length
     ·have e : N = 3 := hN.trans (if_pos h6);subst e; rw [if_pos h6]; rfl
     ·have e : N = 0 := hN.trans (if_neg h6);subst e; rw [if_neg h6]; rfl
  ·have e : N = 1 := hN.trans (if_pos (by omega));subst e; rw [if_neg h3]; rfl
set_option maxHeartbeats 4000000 in
theorem rnode_any (k s : Int) (nm : ByteArray) (m : Nat) (A : Option Addr) (cap : Nat) (w : World) (hn : nm.size ≤ maxLen) (hm : m ≤ maxLen) :
  Calls Tryz.prog 81 #[.agg #[.int .i64 k, .string nm, .int .i64 s, .slice A m cap]] w fun e w' => e = .returned (.int .i64 (qfx k s nm m)) ∧ Lay w.heap.size w w' := by
 have NA := Lib.hid fun w => qke nm w hn;unfold maxLen at hn hm;have hlay : Hid (Lay w.heap.size w (w.alloc (.cells #[.int .i64 k, .string nm, .int .i64 s, .slice A m cap] 24))) := (Lay.refl _ _).alloc (Nat.le_refl _) _;obtain ⟨r, hr⟩ : ∃ r, r = qfx k s nm m := ⟨_, rfl⟩;obtain ⟨nb, hnb⟩ : ∃ nb, nb = qco nm.data.toList := ⟨_, rfl⟩;rw [← hr];rw [← hnb] at NA;unfold qfx at hr;rw [← hnb] at hr;clear hnb;have HRR := Lib.hid hr; clear hr;by_cases k1 : k = 1
 ·subst k1;by_cases s0 : s < 0
  ·skip
   have hv : r = 1 := HRR.out.trans (if_pos (by omega));have q0 : decide (s < 0) = true := decide_eq_true (by omega);clear HRR;subst hv;go_enter Tryz.func81, Tryz.ntmps81
   go_wp2_with (go_at_call 101; refine (NA.out _).mono ?_; rintro e w1 ⟨rfl, rfl⟩)
   go_ret
   exact ⟨rfl, hlay.out⟩
  by_cases s5 : 5 < s
  ·skip
   have hv : r = 1 := HRR.out.trans (if_pos (by omega));have q0 : decide (s < 0) = false := decide_eq_false (by omega);have q1 : decide (5 < s) = true := decide_eq_true (by omega);clear HRR;subst hv;go_enter Tryz.func81, Tryz.ntmps81
   go_wp2_with (go_at_call 101; refine (NA.out _).mono ?_; rintro e w1 ⟨rfl, rfl⟩)
   go_ret
   exact ⟨rfl, hlay.out⟩
  by_cases m0 : m ≠ 0
  ·skip
   have hv : r = 1 := HRR.out.trans (if_pos (by omega));have q0 : decide (s < 0) = false := decide_eq_false (by omega);have q1 : decide (5 < s) = false := decide_eq_false (by omega);have q2 : decide (0 < (m : Int)) = true := decide_eq_true (by omega);clear HRR;subst hv;go_enter Tryz.func81, Tryz.ntmps81
   go_wp2_with (go_at_call 101; refine (NA.out _).mono ?_; rintro e w1 ⟨rfl, rfl⟩)
   go_ret
   exact ⟨rfl, hlay.out⟩
  cases nb with
  | false =>
   have hv : r = 2 := HRR.out.trans ((if_neg (by omega)).trans (if_pos rfl));have q0 : decide (s < 0) = false := decide_eq_false (by omega);have q1 : decide (5 < s) = false := decide_eq_false (by omega);have q2 : decide (0 < (m : Int)) = false := decide_eq_false (by omega);clear HRR;subst hv;go_enter Tryz.func81, Tryz.ntmps81
   go_wp2_with (go_at_call 101; refine (NA.out _).mono ?_; rintro e w1 ⟨rfl, rfl⟩)
   go_ret
   exact ⟨rfl, hlay.out⟩
  | true =>
   have hv : r = 0 := HRR.out.trans ((if_neg (by omega)).trans ((if_neg (by decide)).trans (if_neg (by omega))));have q0 : decide (s < 0) = false := decide_eq_false (by omega);have q1 : decide (5 < s) = false := decide_eq_false (by omega);have q2 : decide (0 < (m : Int)) = false := decide_eq_false (by omega);have q3 : decide (8 < (m : Int)) = false := decide_eq_false (by omega);clear HRR;subst hv;go_enter Tryz.func81, Tryz.ntmps81
   go_wp2_with (go_at_call 101; refine (NA.out _).mono ?_; rintro e w1 ⟨rfl, rfl⟩)
   go_ret
   exact ⟨rfl, hlay.out⟩
 by_cases k2 : k = 2
 ·subst k2;by_cases s0 : s < 0
  ·skip
   have hv : r = 1 := HRR.out.trans (if_pos (by omega));have q0 : decide (s < 0) = true := decide_eq_true (by omega);clear HRR;subst hv;go_enter Tryz.func81, Tryz.ntmps81
   go_wp2_with (go_at_call 101; refine (NA.out _).mono ?_; rintro e w1 ⟨rfl, rfl⟩)
   go_ret
   exact ⟨rfl, hlay.out⟩
  by_cases s5 : 5 < s
  ·skip
   have hv : r = 1 := HRR.out.trans (if_pos (by omega));have q0 : decide (s < 0) = false := decide_eq_false (by omega);have q1 : decide (5 < s) = true := decide_eq_true (by omega);clear HRR;subst hv;go_enter Tryz.func81, Tryz.ntmps81
   go_wp2_with (go_at_call 101; refine (NA.out _).mono ?_; rintro e w1 ⟨rfl, rfl⟩)
   go_ret
   exact ⟨rfl, hlay.out⟩
  by_cases m0 : m ≠ 0
  ·skip
   have hv : r = 1 := HRR.out.trans (if_pos (by omega));have q0 : decide (s < 0) = false := decide_eq_false (by omega);have q1 : decide (5 < s) = false := decide_eq_false (by omega);have q2 : decide (0 < (m : Int)) = true := decide_eq_true (by omega);clear HRR;subst hv;go_enter Tryz.func81, Tryz.ntmps81
   go_wp2_with (go_at_call 101; refine (NA.out _).mono ?_; rintro e w1 ⟨rfl, rfl⟩)
   go_ret
   exact ⟨rfl, hlay.out⟩
  cases nb with
  | false =>
   have hv : r = 2 := HRR.out.trans ((if_neg (by omega)).trans (if_pos rfl));have q0 : decide (s < 0) = false := decide_eq_false (by omega);have q1 : decide (5 < s) = false := decide_eq_false (by omega);have q2 : decide (0 < (m : Int)) = false := decide_eq_false (by omega);clear HRR;subst hv;go_enter Tryz.func81, Tryz.ntmps81
   go_wp2_with (go_at_call 101; refine (NA.out _).mono ?_; rintro e w1 ⟨rfl, rfl⟩)
   go_ret
   exact ⟨rfl, hlay.out⟩
  | true =>
   have hv : r = 0 := HRR.out.trans ((if_neg (by omega)).trans ((if_neg (by decide)).trans (if_neg (by omega))));have q0 : decide (s < 0) = false := decide_eq_false (by omega);have q1 : decide (5 < s) = false := decide_eq_false (by omega);have q2 : decide (0 < (m : Int)) = false := decide_eq_false (by omega);have q3 : decide (8 < (m : Int)) = false := decide_eq_false (by omega);clear HRR;subst hv;go_enter Tryz.func81, Tryz.ntmps81
   go_wp2_with (go_at_call 101; refine (NA.out _).mono ?_; rintro e w1 ⟨rfl, rfl⟩)
   go_ret
   exact ⟨rfl, hlay.out⟩
 by_cases k3 : k = 3
 ·subst k3;by_cases s0 : s < 0
  ·skip
   have hv : r = 1 := HRR.out.trans (if_pos (by omega));have q0 : decide (s < 0) = true := decide_eq_true (by omega);clear HRR;subst hv;go_enter Tryz.func81, Tryz.ntmps81
   go_wp2_with (go_at_call 101; refine (NA.out _).mono ?_; rintro e w1 ⟨rfl, rfl⟩)
   go_ret
   exact ⟨rfl, hlay.out⟩
  by_cases s5 : 5 < s
  ·skip
   have hv : r = 1 := HRR.out.trans (if_pos (by omega));have q0 : decide (s < 0) = false := decide_eq_false (by omega);have q1 : decide (5 < s) = true := decide_eq_true (by omega);clear HRR;subst hv;go_enter Tryz.func81, Tryz.ntmps81
   go_wp2_with (go_at_call 101; refine (NA.out _).mono ?_; rintro e w1 ⟨rfl, rfl⟩)
   go_ret
   exact ⟨rfl, hlay.out⟩
  by_cases s1 : s ≠ 0
  ·skip
   have hv : r = 1 := HRR.out.trans (if_pos (by omega));have q0 : decide (s < 0) = false := decide_eq_false (by omega);have q1 : decide (5 < s) = false := decide_eq_false (by omega);have q2 : (s == 0) = false := by rw [beq_eq_false_iff_ne]; omega
   have q3 : (s != 0) = true := by simp; omega
   clear HRR;subst hv;go_enter Tryz.func81, Tryz.ntmps81
   go_wp2_with (go_at_call 101; refine (NA.out _).mono ?_; rintro e w1 ⟨rfl, rfl⟩)
   go_ret
   exact ⟨rfl, hlay.out⟩
  obtain rfl : s = 0 := by omega
  cases nb with
  | false =>
   have hv : r = 2 := HRR.out.trans ((if_neg (by omega)).trans (if_pos rfl));clear HRR;subst hv;go_enter Tryz.func81, Tryz.ntmps81
   go_wp2_with (go_at_call 101; refine (NA.out _).mono ?_; rintro e w1 ⟨rfl, rfl⟩)
   go_ret
   exact ⟨rfl, hlay.out⟩
  | true =>
   by_cases m8 : 8 < m
   ·skip
    have hv : r = 3 := HRR.out.trans ((if_neg (by omega)).trans ((if_neg (by decide)).trans (if_pos m8)));have q0 : decide (8 < (m : Int)) = true := decide_eq_true (by omega);clear HRR;subst hv;go_enter Tryz.func81, Tryz.ntmps81
    go_wp2_with (go_at_call 101; refine (NA.out _).mono ?_; rintro e w1 ⟨rfl, rfl⟩)
    go_ret
    exact ⟨rfl, hlay.out⟩
   ·skip
    have hv : r = 0 := HRR.out.trans ((if_neg (by omega)).trans ((if_neg (by decide)).trans (if_neg m8)));have q0 : decide (8 < (m : Int)) = false := decide_eq_false (by omega);clear HRR;subst hv;go_enter Tryz.func81, Tryz.ntmps81
    go_wp2_with (go_at_call 101; refine (NA.out _).mono ?_; rintro e w1 ⟨rfl, rfl⟩)
    go_ret
    exact ⟨rfl, hlay.out⟩
 have hv : r = 1 := HRR.out.trans (if_pos (by omega));have q0 : (k == 1) = false := by rw [beq_eq_false_iff_ne]; omega
 have q1 : (k != 1) = true := by simp; omega
 have q2 : (k == 2) = false := by rw [beq_eq_false_iff_ne]; omega
 have q3 : (k != 2) = true := by simp; omega
 have q4 : (k == 3) = false := by rw [beq_eq_false_iff_ne]; omega
 have q5 : (k != 3) = true := by simp; omega
 clear HRR;subst hv;go_enter Tryz.func81, Tryz.ntmps81
 go_wp2_with (go_at_call 101; refine (NA.out _).mono ?_; rintro e w1 ⟨rfl, rfl⟩)
 go_ret
 exact ⟨rfl, hlay.out⟩
set_option maxHeartbeats 2000000 in
theorem ql9 (n : Nat) : ∀ (t : Tm) (A : Option Addr) (cap : Nat) (w : World), t.size ≤ n → n ≤ 1000000 → RepT w w.heap.size t A cap →
  Calls Tryz.prog 55 #[t.val A cap] w fun e w' => e = .returned (.int .i64 t.check) ∧ Lay w.heap.size w w' := by
 induction n with
 | zero => intro t _ _ _ h; have := t.size_pos; omega
 | succ n ih =>
  intro t A cap w hn hb hrep;obtain ⟨tk, tn, ts, l⟩ := t;have hck : (Tm.mk tk tn ts l).check = if qfx tk ts tn l.length ≠ 0 then qfx tk ts tn l.length else Tm.checks l := Tm.check_node _
  rw [Tm.size] at hn;rw [qb2] at hrep;obtain ⟨hr1, hr2, hr3, hr4⟩ := hrep;simp only [Tm.val, Tm.kind, Tm.name, Tm.sort, Tm.kids];obtain ⟨ck, hckk⟩ : ∃ c, c = (Tm.mk tk tn ts l).check := ⟨_, rfl⟩;rw [← hckk] at hck ⊢;clear hckk;obtain ⟨V, hV⟩ : ∃ V, V = w.alloc (.cells #[.int .i64 tk, .string tn, .int .i64 ts, .slice A l.length cap] 24) := ⟨_, rfl⟩;have hND := rnode_any tk ts tn l.length A cap V hr1 (Nat.le_trans hr2 hr3);obtain ⟨nd, hnd⟩ : ∃ c, c = qfx tk ts tn l.length := ⟨_, rfl⟩;rw [← hnd] at hND hck;clear hnd;have HND := Lib.hid hND; clear hND;have HCK := Lib.hid hck; clear hck;unfold maxLen at hr1 hr3;have hls := Tm.length_le_sizes l;have hlv : Lay w.heap.size w V := by rw [hV]; exact (Lay.refl _ _).alloc (Nat.le_refl _) _
  have hbx0 : V.heap[w.heap.size]? = some (.cells #[.int .i64 tk, .string tn, .int .i64 ts, .slice A l.length cap] 24 (0, 0)) := by rw [hV]; exact heap_alloc_new _ _
  have HV := Lib.hid hV; clear hV;have HLV := Lib.hid hlv; clear hlv;have HBX := Lib.hid hbx0; clear hbx0;go_enter Tryz.func55, Tryz.ntmps55
  go_wp2_with fail
  rw [← HV.out];clear HV;refine HND.out.mono ?_; clear HND;rintro e w1 ⟨rfl, hl1⟩;have hlt1 : w.heap.size < V.heap.size := (Array.getElem?_eq_some_iff.1 HBX.out).1;have hL1 : Lay w.heap.size w w1 := HLV.out.trans (hl1.mono (by omega));have hbx : w1.heap[w.heap.size]? = some (.cells #[.int .i64 tk, .string tn, .int .i64 ts, .slice A l.length cap] 24 (0, 0)) := (hl1.below.block _ hlt1).trans HBX.out;have hlt2 : w.heap.size < w1.heap.size := (Array.getElem?_eq_some_iff.1 hbx).1;have HB := Lib.hid (qad hbx); clear hbx hl1 hlt1 HBX HLV;have HL1 := Lib.hid hL1; clear hL1;by_cases h0 : nd = 0
  ·subst h0;have hv := HCK.out.trans (if_neg (by simp));clear HCK;have HVL := Lib.hid hv; clear hv;obtain ⟨r0, r1, r2, r3, rf⟩ := HB.out;go_wp2_with fail
   clear r0 r1 r2 r3 rf;go_loopw [4] (fun i wr => ∃ k : Nat, k ≤ l.length ∧ i = .int .i64 k ∧ Hid (ck = Tm.checks (l.drop k)) ∧ Hid (Lay w1.heap.size w1 wr)) (fun i _ => l.length - (intOf i).toNat)
   case atStart => exact ⟨0, Nat.zero_le _, rfl, by rw [List.drop_zero]; exact HVL, Lay.refl _ _⟩
   case round =>
    obtain ⟨k, hk, rfl, HC, HLR⟩ := hrel;have i1 : (0 : Int) ≤ (k : Int) := Int.natCast_nonneg _;have hL : Hid (Lay w.heap.size w wr) := HL1.out.trans (HLR.out.mono (by omega));have hbx : wr.cell? ⟨w.heap.size, 3, none⟩ = some (.slice A l.length cap) := by rw [HLR.out.below.cell (by exact hlt2)]; exact HB.out.2.2.2.1
    by_cases hlt : k < l.length
    ·have i2 : (k : Int) < (l.length : Int) := by omega
     rcases hr4 with rfl | ⟨b, off, rfl, hbB, hl⟩
     ·simp at hlt
     obtain ⟨A', cap', h0, h1, h2, h3, h5⟩ := (hl.below hL.out.below hbB).get k hlt;have hsg := Tm.sizes_get l k hlt;have hcs := Tm.checks_drop l k hlt;rw [← HC.out] at hcs;have HC2 := Lib.hid hcs; clear hcs HC;have CON := Lib.hid (ih l[k] A' cap' wr (by omega) (by omega) (h5.go (Below.refl _ _) (by have := hL.out.size; omega)));simp only [Tm.val] at CON;clear h5 hl;obtain ⟨cv, hcv⟩ : ∃ c, c = l[k].check := ⟨_, rfl⟩;rw [← hcv] at CON HC2;clear hcv;go_wp2_with fail
     refine CON.out.mono ?_; clear CON h0 h1 h2 h3;rintro e w2 ⟨rfl, hl2⟩;have hL2 : Hid (Lay w1.heap.size w1 w2) := HLR.out.trans (hl2.mono HLR.out.size);have hL3 : Hid (Lay w.heap.size w w2) := hL.out.trans (hl2.mono hL.out.size);clear hl2 HLR hL;by_cases hz : cv = 0
     ·subst hz;have HC3 := Lib.hid (HC2.out.trans (if_neg (by simp)));clear HC2;go_wp2_with fail
      go_roundw
      case rel => exact ⟨k + 1, by omega, by go_num, HC3, hL2⟩
      case measure => simp [intOf]; omega
     ·have hc4 : ck = cv := HC2.out.trans (if_pos hz);subst hc4;have q : (ck == 0) = false := by rw [beq_eq_false_iff_ne]; exact hz
      have q' : (ck != 0) = true := by simp [hz]
      clear HC2;go_wp2_with fail
      go_ret
      exact ⟨rfl, hL3.out⟩
    ·obtain rfl : k = l.length := by omega
     have hz : ck = 0 := by rw [HC.out, List.drop_length]; rfl
     subst hz;go_wp2_with fail
     go_ret
     exact ⟨rfl, hL.out⟩
  ·have hc4 : ck = nd := HCK.out.trans (if_pos h0);subst hc4;have q : (ck == 0) = false := by rw [beq_eq_false_iff_ne]; exact h0
   have q' : (ck != 0) = true := by simp [h0]
   clear HCK HB;go_wp2_with fail
   go_ret
   exact ⟨rfl, HL1.out⟩
set_option maxHeartbeats 2000000 in
theorem qhc (t : Tm) (A : Option Addr) (cap : Nat) (w : World) (hn : t.size ≤ 1000000) (hrep : RepT w w.heap.size t A cap) :
  Calls Tryz.prog 29 #[t.val A cap] w fun e w' => e = .returned (.int .i64 t.valid) ∧ Lay w.heap.size w w' := by
 obtain ⟨V, hV⟩ : ∃ V, V = w.alloc (.cells #[.int .i64 t.kind, .string t.name, .int .i64 t.sort, .slice A t.kids.length cap] 24) := ⟨_, rfl⟩;have hlv : Lay w.heap.size w V := by rw [hV]; exact (Lay.refl _ _).alloc (Nat.le_refl _) _
 have hbx0 : V.heap[w.heap.size]? = some (.cells #[.int .i64 t.kind, .string t.name, .int .i64 t.sort, .slice A t.kids.length cap] 24 (0, 0)) := by rw [hV]; exact heap_alloc_new _ _
 have hsv : V.heap.size = w.heap.size + 1 := by rw [hV]; simp
 have NOD : Hid (∀ Y, Lay w.heap.size w Y → Calls Tryz.prog 55 #[.agg #[.int .i64 t.kind, .string t.name, .int .i64 t.sort, .slice A t.kids.length cap]] Y fun e w' => e = .returned (.int .i64 t.check) ∧ Lay Y.heap.size Y w') := fun Y h =>
  ql9 1000000 t A cap Y hn (Nat.le_refl _) (hrep.go h.below h.size)
 have SIZ : Hid (∀ Y, Lay w.heap.size w Y → Calls Tryz.prog 56 #[.agg #[.int .i64 t.kind, .string t.name, .int .i64 t.sort, .slice A t.kids.length cap]] Y fun e w' => e = .returned (.int .i64 t.size) ∧ Lay Y.heap.size Y w') := fun Y h =>
  qgi 1000000 t A cap Y hn (Nat.le_refl _) (hrep.go h.below h.size)
 have DEP : Hid (∀ Y, Lay w.heap.size w Y → Calls Tryz.prog 57 #[.agg #[.int .i64 t.kind, .string t.name, .int .i64 t.sort, .slice A t.kids.length cap]] Y fun e w' => e = .returned (.int .i64 t.depth) ∧ Lay Y.heap.size Y w') := fun Y h =>
  qmd 1000000 t A cap Y hn (Nat.le_refl _) (hrep.go h.below h.size)
 clear hrep;simp only [Tm.val];obtain ⟨v, hv⟩ : ∃ v, v = t.valid := ⟨_, rfl⟩;rw [← hv];unfold Tm.valid at hv;obtain ⟨c, hc⟩ : ∃ c, c = t.check := ⟨_, rfl⟩;rw [← hc] at NOD hv;clear hc;have HVV := Lib.hid hv; clear hv;have HV := Lib.hid hV; clear hV;have HLV := Lib.hid hlv; clear hlv;have HBX := Lib.hid hbx0; clear hbx0;have CON := Lib.hid (NOD.out V HLV.out); clear NOD;go_enter Tryz.func29, Tryz.ntmps29
 go_wp2_with fail
 rw [← HV.out];clear HV;refine CON.out.mono ?_; clear CON;rintro e w1 ⟨rfl, hl1⟩;have hL1 : Lay w.heap.size w w1 := HLV.out.trans (hl1.mono (by omega));have hbx : w1.heap[w.heap.size]? = some (.cells #[.int .i64 t.kind, .string t.name, .int .i64 t.sort, .slice A t.kids.length cap] 24 (0, 0)) := (hl1.below.block _ (by omega)).trans HBX.out;clear HLV HBX hl1;have HB1 := Lib.hid hbx; clear hbx;have HL1 := Lib.hid hL1; clear hL1;by_cases h0 : c = 0
 ·subst h0;have hv := HVV.out.trans (if_neg (by simp));clear HVV;have HVV := Lib.hid hv; clear hv;obtain ⟨r0, r1, r2, r3, -⟩ := qad HB1.out;have CON := Lib.hid (SIZ.out w1 HL1.out); clear SIZ;have hlt := (Array.getElem?_eq_some_iff.1 HB1.out).1;go_wp2_with fail
  refine CON.out.mono ?_; clear CON r0 r1 r2 r3;rintro e w2 ⟨rfl, hl2⟩;have hbx := (hl2.below.block _ hlt).trans HB1.out;have hL2 := HL1.out.trans (hl2.mono HL1.out.size);clear HL1 HB1 hlt hl2;have HL2 := Lib.hid hL2; clear hL2;obtain ⟨r0, r1, r2, r3, -⟩ := qad hbx;have hlt := (Array.getElem?_eq_some_iff.1 hbx).1;clear hbx;by_cases h4 : 400 < t.size
  ·have q : decide (400 < (t.size : Int)) = true := decide_eq_true (by omega);have hv := HVV.out.trans (if_pos (.inl h4));subst hv;clear HVV;go_wp2_with fail
   go_ret
   exact ⟨rfl, HL2.out⟩
  ·have q : decide (400 < (t.size : Int)) = false := decide_eq_false (by omega);have CON := Lib.hid (DEP.out w2 HL2.out); clear DEP;go_wp2_with fail
   refine CON.out.mono ?_; clear CON r0 r1 r2 r3;rintro e w3 ⟨rfl, hl3⟩;have HL3 := Lib.hid (HL2.out.trans (hl3.mono HL2.out.size)); clear HL2 hl3;by_cases h5 : 40 < t.depth
   ·have q2 : decide (40 < (t.depth : Int)) = true := decide_eq_true (by omega);have hv := HVV.out.trans (if_pos (.inr h5));subst hv;clear HVV;go_wp2_with fail
    go_ret
    exact ⟨rfl, HL3.out⟩
   ·have q2 : decide (40 < (t.depth : Int)) = false := decide_eq_false (by omega);have hv := HVV.out.trans (if_neg (by omega));subst hv;clear HVV;go_wp2_with fail
    go_ret
    exact ⟨rfl, HL3.out⟩
 ·have hv : v = c := HVV.out.trans (if_pos h0);subst hv;have q : (v == 0) = false := by rw [beq_eq_false_iff_ne]; exact h0
  have q' : (v != 0) = true := by simp [h0]
  clear HVV SIZ DEP;go_wp2_with fail
  go_ret
  exact ⟨rfl, HL1.out⟩
end Go.Proofs.YtpjmdilpldaapaaGreatDoor
namespace Go.Proofs.YtpjmdilpldaapaaGreatDoor
open Go.RowKit Go.Sort
def boxT (t : Tm) (A : Option Addr) (c : Nat) : Obj := .cells #[.int .i64 t.kind, .string t.name, .int .i64 t.sort, .slice A t.kids.length c] 24
structure Two (w : World) (x t : Tm) (A A' : Option Addr) (c c' : Nat) (V : World) : Prop where
 lay : Lay w.heap.size w V
 one : V.heap[w.heap.size]? = some (.cells #[.int .i64 x.kind, .string x.name, .int .i64 x.sort, .slice A x.kids.length c] 24 (0, 0))
 two : V.heap[w.heap.size + 1]? = some (.cells #[.int .i64 t.kind, .string t.name, .int .i64 t.sort, .slice A' t.kids.length c'] 24 (0, 0))
theorem Two.new (w : World) (x t : Tm) (A A' : Option Addr) (c c' : Nat) : Two w x t A A' c c' ((w.alloc (boxT x A c)).alloc (boxT t A' c')) := by
 have l1 : Lay w.heap.size w (w.alloc (boxT x A c)) := (Lay.refl _ _).alloc (Nat.le_refl _) _;have s1 : (w.alloc (boxT x A c)).heap.size = w.heap.size + 1 := by simp
 have l2 : Lay (w.alloc (boxT x A c)).heap.size (w.alloc (boxT x A c)) ((w.alloc (boxT x A c)).alloc (boxT t A' c')) := (Lay.refl _ _).alloc (Nat.le_refl _) _;refine ⟨l1.trans (l2.mono (by omega)), ?_, ?_⟩
 ·rw [l2.below.block _ (by omega)]; exact heap_alloc_new _ _
 ·rw [← s1]; exact heap_alloc_new _ _
theorem Two.lt {w V : World} {x t : Tm} {A A' : Option Addr} {c c' : Nat} (h : Two w x t A A' c c' V) : w.heap.size + 1 < V.heap.size := (Array.getElem?_eq_some_iff.1 h.two).1
theorem Two.go {w V W : World} {x t : Tm} {A A' : Option Addr} {c c' : Nat} (h : Two w x t A A' c c' V) (hl : Lay V.heap.size V W) : Two w x t A A' c c' W :=
 ⟨h.lay.trans (hl.mono (by have := h.lt; omega)), (hl.below.block _ (by have := h.lt; omega)).trans h.one, (hl.below.block _ h.lt).trans h.two⟩
theorem eq_facts (a b : Int) : (a = b ∧ (a == b) = true ∧ (a != b) = false) ∨ (a ≠ b ∧ (a == b) = false ∧ (a != b) = true) := by
 by_cases h : a = b
 ·left; subst h; exact ⟨rfl, by simp, by simp⟩
 ·right; exact ⟨h, by rw [beq_eq_false_iff_ne]; exact h, by simp [h]⟩
set_option maxHeartbeats 4000000 in
theorem qin (x t : Tm) (A A' : Option Addr) (c c' : Nat) (w : World) (hx : x.size ≤ 1000000) (ht : t.size ≤ 1000000) (hrx : RepT w w.heap.size x A c) (hrt : RepT w w.heap.size t A' c') :
  Calls Tryz.prog 72 #[x.val A c, t.val A' c'] w fun e w' => e = .returned (.bool (fits x t)) ∧ Lay w.heap.size w w' := by
 obtain ⟨V, hV⟩ : ∃ V, V = (w.alloc (boxT x A c)).alloc (boxT t A' c') := ⟨_, rfl⟩;have h2 : Two w x t A A' c c' V := by rw [hV]; exact Two.new _ _ _ _ _ _ _
 have VX : Hid (∀ Z, Lay w.heap.size w Z → Calls Tryz.prog 44 #[x.val A c] Z fun e w' => e = .returned (.int .i64 x.valid) ∧ Lay Z.heap.size Z w') := Lib.hid fun Z h => qds x A c Z hx (hrx.go h.below h.size);have VT : Hid (∀ Z, Lay w.heap.size w Z → Calls Tryz.prog 44 #[t.val A' c'] Z fun e w' => e = .returned (.int .i64 t.valid) ∧ Lay Z.heap.size Z w') := Lib.hid fun Z h => qds t A' c' Z ht (hrt.go h.below h.size);obtain ⟨vx, hvx⟩ : ∃ v, v = x.valid := ⟨_, rfl⟩;obtain ⟨vt, hvt⟩ : ∃ v, v = t.valid := ⟨_, rfl⟩;rw [← hvx] at VX;rw [← hvt] at VT;obtain ⟨r, hr⟩ : ∃ r, r = fits x t := ⟨_, rfl⟩;rw [← hr];unfold fits at hr;rw [← hvx, ← hvt] at hr;clear hvx hvt;have HR := Lib.hid hr; clear hr;simp only [boxT] at hV;have HV := Lib.hid hV; clear hV;have H2 := Lib.hid h2; clear h2;have CON := Lib.hid (VX.out V H2.out.lay); clear VX
 simp only [Tm.val] at CON VT ⊢;go_enter Tryz.func72, Tryz.ntmps72
 go_wp2_with fail
 rw [← HV.out];refine CON.out.mono ?_; clear CON HV;rintro e w1 ⟨rfl, hl1⟩;have H21 := Lib.hid (H2.out.go hl1); clear H2 hl1;obtain ⟨a0, a1, a2, a3, -⟩ := qad H21.out.one;obtain ⟨b0, b1, b2, b3, -⟩ := qad H21.out.two;rcases eq_facts vx 0 with ⟨h0, e0, n0⟩ | ⟨h0, e0, n0⟩
 ·subst h0;have CON := Lib.hid (VT.out w1 H21.out.lay);go_wp2_with fail
  refine CON.out.mono ?_; clear CON a0 a1 a2 a3 b0 b1 b2 b3 VT;rintro e w2 ⟨rfl, hl2⟩;have H22 := Lib.hid (H21.out.go hl2); clear H21 hl2;obtain ⟨a0, a1, a2, a3, -⟩ := qad H22.out.one;obtain ⟨b0, b1, b2, b3, -⟩ := qad H22.out.two;rcases eq_facts vt 0 with ⟨h1, e1, n1⟩ | ⟨h1, e1, n1⟩
  ·subst h1;rcases eq_facts x.kind 1 with ⟨h2, e2, n2⟩ | ⟨h2, e2, n2⟩
   ·rcases eq_facts x.sort 0 with ⟨h3, e3, n3⟩ | ⟨h3, e3, n3⟩
    ·have hr : r = true := by rw [HR.out]; simp [h2, h3]
     subst hr;clear HR;rw [h2] at a0;rw [h3] at a2;clear h2 h3 e2 n2 e3 n3;go_wp2_with fail
     go_ret
     exact ⟨rfl, H22.out.lay⟩
    ·rcases eq_facts t.kind 3 with ⟨h4, e4, n4⟩ | ⟨h4, e4, n4⟩
     ·have hr : r = false := by rw [HR.out]; simp [h3, h4]
      subst hr;clear HR;rw [h2] at a0;clear h2 h3 e2 n2 h4;go_wp2_with fail
      go_ret
      exact ⟨rfl, H22.out.lay⟩
     ·rcases eq_facts t.sort x.sort with ⟨h5, e5, n5⟩ | ⟨h5, e5, n5⟩
      ·have hr : r = true := by rw [HR.out]; simp [h2, h4, h5]
       subst hr;clear HR;rw [h2] at a0;clear h2 h3 e2 n2 h4 h5;go_wp2_with fail
       go_ret
       exact ⟨rfl, H22.out.lay⟩
      ·have hr : r = false := by rw [HR.out]; simp [h3, h5]
       subst hr;clear HR;rw [h2] at a0;clear h2 h3 e2 n2 h4 h5;go_wp2_with fail
       go_ret
       exact ⟨rfl, H22.out.lay⟩
   ·have hr : r = false := by rw [HR.out]; simp [h2]
    subst hr;clear HR h2;go_wp2_with fail
    go_ret
    exact ⟨rfl, H22.out.lay⟩
  ·have hr : r = false := by rw [HR.out]; simp [h1]
   subst hr;clear HR h1;go_wp2_with fail
   go_ret
   exact ⟨rfl, H22.out.lay⟩
 ·have hr : r = false := by rw [HR.out]; simp [h0]
  subst hr;clear HR h0;go_wp2_with fail
  go_ret
  exact ⟨rfl, H21.out.lay⟩
def qei (b : Bd) (A : Option Addr) (c : Nat) (A' : Option Addr) (c' : Nat) : Array Value :=
 #[.int .i64 b.1.kind, .string b.1.name, .int .i64 b.1.sort, .slice A b.1.kids.length c, .int .i64 b.2.kind, .string b.2.name, .int .i64 b.2.sort, .slice A' b.2.kids.length c']
def bval (b : Bd) (A : Option Addr) (c : Nat) (A' : Option Addr) (c' : Nat) : Value := .agg (qei b A c A' c')
theorem eight_at {W : World} {B : Nat} {a0 a1 a2 a3 a4 a5 a6 a7 : Value} {T : TypeId} (h : W.heap[B]? = some (.cells #[a0, a1, a2, a3, a4, a5, a6, a7] T (0, 0))) :
  W.cell? ⟨B, 0, none⟩ = some a0 ∧ W.cell? ⟨B, 1, none⟩ = some a1 ∧ W.cell? ⟨B, 2, none⟩ = some a2 ∧ W.cell? ⟨B, 3, none⟩ = some a3 ∧
  W.cell? ⟨B, 4, none⟩ = some a4 ∧ W.cell? ⟨B, 5, none⟩ = some a5 ∧ W.cell? ⟨B, 6, none⟩ = some a6 ∧ W.cell? ⟨B, 7, none⟩ = some a7 := by
 refine ⟨?_, ?_, ?_, ?_, ?_, ?_, ?_, ?_⟩ <;> simp [World.cell?, h]
structure Bx (w : World) (b : Bd) (A : Option Addr) (c : Nat) (A' : Option Addr) (c' : Nat) (V : World) : Prop where
 lay : Lay w.heap.size w V
 box : V.heap[w.heap.size]? = some (.cells #[.int .i64 b.1.kind, .string b.1.name, .int .i64 b.1.sort, .slice A b.1.kids.length c, .int .i64 b.2.kind, .string b.2.name, .int .i64 b.2.sort, .slice A' b.2.kids.length c'] 48 (0, 0))
theorem Bx.new (w : World) (b : Bd) (A : Option Addr) (c : Nat) (A' : Option Addr) (c' : Nat) :
  Bx w b A c A' c' (w.alloc (.cells #[.int .i64 b.1.kind, .string b.1.name, .int .i64 b.1.sort, .slice A b.1.kids.length c, .int .i64 b.2.kind, .string b.2.name, .int .i64 b.2.sort, .slice A' b.2.kids.length c'] 48)) :=
 ⟨(Lay.refl _ _).alloc (Nat.le_refl _) _, heap_alloc_new _ _⟩
theorem Bx.lt {w V : World} {b : Bd} {A A' : Option Addr} {c c' : Nat} (h : Bx w b A c A' c' V) : w.heap.size < V.heap.size := (Array.getElem?_eq_some_iff.1 h.box).1
theorem Bx.go {w V W : World} {b : Bd} {A A' : Option Addr} {c c' : Nat} (h : Bx w b A c A' c' V) (hl : Lay V.heap.size V W) : Bx w b A c A' c' W :=
 ⟨h.lay.trans (hl.mono (by have := h.lt; omega)), (hl.below.block _ h.lt).trans h.box⟩
end Go.Proofs.YtpjmdilpldaapaaGreatDoor
