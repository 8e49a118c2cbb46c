/- The reference's count. -/
import Derived.Test.YtpjmdilpldaapaaDoorGh
import Derived.Test.YtpjmdilpldaapaaDoorCsplain
namespace Go.Proofs.YtpjmdilpldaapaaDoor
open Go.RowKit Go.Sort

/-- the loop of count: how many rounds at most, the index, the sum so far -/
def cntLoop (g : Nat → Nat) (m : Nat) : Nat → Nat → Nat → Nat
  | 0, _, s => s
  | f + 1, i, s => if i ≤ m ∧ s ≤ 2000 then cntLoop g m f (i + 1) (s + g i) else s
def cntR : Nat → Nat → Nat
  | 0, _ => 1
  | n + 1, m => cntLoop (cntR n) m m 1 0
theorem cntLoop_le {g : Nat → Nat} {B : Nat} (hg : ∀ i, g i ≤ B) (m : Nat) : ∀ (f i s : Nat), s ≤ 2000 + B → cntLoop g m f i s ≤ 2000 + B
  | 0, _, s, h => h
  | f + 1, i, s, h => by
    rw [cntLoop]
    split
    · rename_i hc
      exact cntLoop_le hg m f (i + 1) (s + g i) (by have := hg i; omega)
    · exact h
theorem cntR_le : ∀ (n m : Nat), cntR n m ≤ 2000 * n + 1
  | 0, _ => by simp [cntR]
  | n + 1, m => by
    rw [cntR]
    have := cntLoop_le (fun i => cntR_le n i) m m 1 0 (by omega)
    omega
theorem cntLoop_stop {g : Nat → Nat} {m i s : Nat} (h : ¬ (i ≤ m ∧ s ≤ 2000)) : ∀ f, cntLoop g m f i s = s
  | 0 => rfl
  | f + 1 => by rw [cntLoop, if_neg h]

set_option maxHeartbeats 1000000 in
set_option maxRecDepth 100000 in
theorem rcount_any : ∀ (n : Nat), n ≤ 4 → ∀ (m : Nat) (w : World), m ≤ 1000000 →
    Calls Tryd.prog 47 #[.int .i64 m, .int .i64 n] w fun e w' => e = .returned (.int .i64 (cntR n m)) ∧ w' = w
  | 0, _, m, w, _ => by
    have hz : ((0 : Nat) : Int) = 0 := rfl
    rw [hz]
    go_enter Tryd.func47, Tryd.ntmps47
    go_wp2_with fail
    go_ret
    exact ⟨rfl, rfl⟩
  | n + 1, hn, m, w, hm => by
    obtain ⟨z, hz⟩ : ∃ z, z = ((n + 1 : Nat) : Int) := ⟨_, rfl⟩
    rw [← hz]
    have hz1 : (z == 0) = false := by rw [beq_eq_false_iff_ne]; omega
    have hz2 : ¬ z = 0 := by omega
    have hz3 : 0 < z := by omega
    have hz4 : z ≤ 4 := by omega
    have HZ : Hid (z - 1 = (n : Int)) := Lib.hid (by omega)
    obtain ⟨R, hR⟩ : ∃ R, R = cntR (n + 1) m := ⟨_, rfl⟩
    rw [← hR]
    have HR0 : Hid (R = cntLoop (cntR n) m (m + 1 - 1) 1 0) := hR
    have IH := Lib.hid (fun (i : Nat) (hi : i ≤ 1000000) => rcount_any n (by omega) i w hi)
    clear hz hR
    go_enter Tryd.func47, Tryd.ntmps47
    go_wp2_with fail
    go_loop [5, 6] (fun sv iv => ∃ i s : Nat, 1 ≤ i ∧ i ≤ m + 1 ∧ s ≤ 20000 ∧ iv = .int .i64 i ∧ sv = .int .i64 s ∧ Hid (R = cntLoop (cntR n) m (m + 1 - i) i s)) (fun _ iv => m + 1 - (intOf iv).toNat)
    case atStart => exact ⟨1, 0, by omega, by omega, by omega, rfl, rfl, HR0.out⟩
    case round =>
      obtain ⟨i, s, h1, h2, h3, rfl, rfl, HR⟩ := hrel
      have j1 : (1 : Int) ≤ (i : Int) := by omega
      have j2 : (0 : Int) ≤ (s : Int) := by omega
      by_cases hi : i ≤ m
      · have k1 : (i : Int) ≤ (m : Int) := by omega
        by_cases hs : s ≤ 2000
        · have k2 : (s : Int) ≤ 2000 := by omega
          have HN : Hid (R = cntLoop (cntR n) m (m + 1 - (i + 1)) (i + 1) (s + cntR n i)) := Lib.hid (by
            rw [HR.out, show m + 1 - i = (m + 1 - (i + 1)) + 1 by omega, cntLoop, if_pos ⟨hi, hs⟩])
          have hq := cntR_le n i
          have HC := Lib.hid (IH.out i (by omega))
          rw [← HZ.out] at HC
          generalize cntR n i = q at *
          have q1 : (0 : Int) ≤ (q : Int) := by omega
          have q2 : (q : Int) ≤ 10000 := by omega
          clear HR
          go_wp2_with fail
          refine HC.out.mono ?_; clear HC
          rintro e wz ⟨rfl, hw⟩
          obtain rfl := hw.symm
          go_wp2_with fail
          go_round
          case rel => exact ⟨i + 1, s + q, by omega, by omega, by omega, by go_num, by go_num, HN⟩
          case measure => simp [intOf]; omega
        · have k2 : ¬ (s : Int) ≤ 2000 := by omega
          have hE : R = s := by rw [HR.out]; exact cntLoop_stop (fun h => hs h.2) _
          subst hE
          clear HR HR0
          go_wp2_with fail
          go_ret
          exact ⟨rfl, rfl⟩
      · have k1 : ¬ (i : Int) ≤ (m : Int) := by omega
        have hE : R = s := by rw [HR.out]; exact cntLoop_stop (fun h => hi h.1) _
        subst hE
        clear HR HR0
        go_wp2_with fail
        go_ret
        exact ⟨rfl, rfl⟩
end Go.Proofs.YtpjmdilpldaapaaDoor
namespace Go.Proofs.YtpjmdilpldaapaaDoor
theorem loop_cnt {n m : Nat} {g : Nat → Nat} (hg : ∀ i, (cnt n i ≤ 2000 → g i = cnt n i) ∧ (2000 < cnt n i → 2000 < g i)) : ∀ (f k : Nat), k ≤ m → m ≤ k + f →
    (cnt (n + 1) m ≤ 2000 → cntLoop g m f (k + 1) (cnt (n + 1) k) = cnt (n + 1) m) ∧ (2000 < cnt (n + 1) m → 2000 < cntLoop g m f (k + 1) (cnt (n + 1) k))
  | 0, k, h1, h2 => by
    obtain rfl : k = m := by omega
    exact ⟨fun _ => rfl, fun h => h⟩
  | f + 1, k, h1, h2 => by
    by_cases hc : k + 1 ≤ m ∧ cnt (n + 1) k ≤ 2000
    · rw [cntLoop, if_pos hc]
      have hs := cnt_succ n k
      have hup := cnt_up_le (n + 1) hc.1
      by_cases hl : cnt n (k + 1) ≤ 2000
      · rw [(hg (k + 1)).1 hl, ← hs]
        exact loop_cnt hg f (k + 1) hc.1 (by omega)
      · have hq := (hg (k + 1)).2 (by omega)
        rw [cntLoop_stop (fun h => by omega)]
        exact ⟨fun h => by omega, fun _ => by omega⟩
    · rw [cntLoop_stop hc]
      by_cases hk : k = m
      · subst hk; exact ⟨fun _ => rfl, fun h => h⟩
      · have hup := cnt_up_le (n + 1) h1
        exact ⟨fun h => by omega, fun _ => by omega⟩
theorem cntR_cnt : ∀ (n m : Nat), (cnt n m ≤ 2000 → cntR n m = cnt n m) ∧ (2000 < cnt n m → 2000 < cntR n m)
  | 0, m => ⟨fun _ => rfl, fun h => by rw [cnt_zero] at h; omega⟩
  | n + 1, m => by
    have h := loop_cnt (m := m) (cntR_cnt n) m 0 (Nat.zero_le _) (by omega)
    rw [cnt_none] at h
    exact h
theorem cntR_large (n m : Nat) : 2000 < cntR n m ↔ 2000 < cnt n m :=
  ⟨fun h => by
    by_cases hc : cnt n m ≤ 2000
    · rw [(cntR_cnt n m).1 hc] at h; exact h
    · omega, (cntR_cnt n m).2⟩
end Go.Proofs.YtpjmdilpldaapaaDoor
