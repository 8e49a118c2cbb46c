/- The reference's Format of bindings. -/
import Derived.Test.YtipmibjhlpnhjaaGreatDoorSguard
import Derived.Test.YtipmibjhlpnhjaaGreatDoorSformat
import Derived.Test.YtipmibjhlpnhjaaGreatDoorSvalid
namespace Go.Proofs.YtipmibjhlpnhjaaGreatDoor
open Go.RowKit Go.Sort

theorem join_take_succ (xs : List (List UInt8)) (sep : List UInt8) (k : Nat) (h : k < xs.length) : Lib.join (xs.take (k + 1)) sep = (if k = 0 then [] else Lib.join (xs.take k) sep ++ sep) ++ xs[k] := by
  cases xs with
  | nil => simp at h
  | cons x r =>
    cases k with
    | zero => simp [Lib.join_one]
    | succ k =>
      have hk : k < r.length := by simpa using h
      rw [List.take_succ_cons, List.take_succ_cons, Lib.join_cons, Lib.join_cons, Lib.joinTail_take_succ sep r k r[k] (List.getElem?_eq_getElem hk)]
      simp
/-- the text after k bindings -/
def partT (s : List Bd) (k : Nat) : List UInt8 := [123] ++ Lib.join ((s.take k).map lineB) [44, 32]
theorem partT_succ (s : List Bd) (k : Nat) (h : k < s.length) : partT s (k + 1) = (if k = 0 then partT s k else partT s k ++ [44, 32]) ++ lineB s[k] := by
  unfold partT
  have h2 : k < (s.map lineB).length := by simpa using h
  rw [List.map_take, List.map_take, join_take_succ _ _ k h2, List.getElem_map]
  by_cases hk : k = 0
  · subst hk; simp [Lib.join_nil]
  · simp [hk]

set_option maxHeartbeats 1200000 in
set_option maxRecDepth 100000 in
theorem rformat_any (s : List Bd) (S0 : Option Addr) (sc : Nat) (w : World) (hsz : SizeB s) (hrep : RepB w (fun b => b < w.heap.size) s S0 sc) :
    Calls Tryz.prog 32 #[.slice S0 s.length sc] w fun e w' => e = .returned (.tuple #[.string ⟨(FormatE s).1.toArray⟩, .int .i64 (FormatE s).2]) ∧ Lay w.heap.size w w' := by
  have mixed : Tryz.prog.follows .mixedOrders = true := by kernel_rfl
  have VS := rsvalid_any s S0 sc w hsz hrep
  have h1 := hrep.1
  have h2 := hrep.2.1
  unfold maxLen at h2
  obtain ⟨r, hr⟩ : ∃ r, r = FormatE s := ⟨_, rfl⟩
  rw [← hr]
  unfold FormatE at hr
  obtain ⟨vs, hvs⟩ : ∃ v, v = validS s := ⟨_, rfl⟩
  rw [← hvs] at VS hr
  have VS := Lib.hid VS
  have HR := Lib.hid hr; clear hr
  have HVS := Lib.hid hvs; clear hvs
  have HREP := Lib.hid hrep; clear hrep
  have HSZ := Lib.hid hsz; clear hsz
  go_enter Tryz.func32, Tryz.ntmps32
  go_wp2_with fail
  refine VS.out.mono ?_; clear VS
  rintro e w1 ⟨rfl, hl1⟩
  rcases eq_facts vs 0 with ⟨h0, e0, n0⟩ | ⟨h0, e0, n0⟩
  rotate_left
  · have hr := HR.out.trans (if_pos h0)
    subst hr
    clear HR h0
    go_wp2_with fail
    go_ret2
    exact ⟨rfl, hl1⟩
  subst h0
  have hr := HR.out.trans (if_neg (by simp))
  subst hr
  clear HR
  have hzs := validS_zero HVS.out.symm
  have hls := hzs.1
  have HZ := Lib.hid hzs; clear hzs
  have HL1 := Lib.hid hl1; clear hl1
  go_wp2_with fail
  go_loopw [5, 6] (fun v i wr => ∃ (k : Nat) (o : ByteArray), k ≤ s.length ∧ i = .int .i64 k ∧ v = .string o ∧ o.size ≤ 1 + 32005 * k ∧ Hid (o.data.toList = partT s k) ∧ Hid (Lay w.heap.size w wr)) (fun _ i _ => s.length - (intOf i).toNat)
  case atStart => exact ⟨0, _, Nat.zero_le _, rfl, rfl, by decide, rfl, HL1.out⟩
  case round =>
    obtain ⟨k, o, hk, rfl, rfl, hos, HO, HLW⟩ := hrel
    have i1 : (0 : Int) ≤ (k : Int) := Int.natCast_nonneg _
    by_cases hlt : k < s.length
    · have i2 : (k : Int) < (s.length : Int) := by omega
      rcases HREP.out.2.2 with h | ⟨kb, off, hS0, hbB, hl⟩
      · rw [h] at hlt; simp at hlt
      subst hS0
      have hws := HLW.out.size
      have hlr : RepLP wr (fun b => b < w.heap.size) (flat s) kb off := RepLP.mono (fun _ h => h) (fun p hp => HLW.out.below.cell hp) _ _ _ hbB hl
      obtain ⟨A, c, A', c', h8⟩ := hlr.get8 k hlt
      obtain ⟨hx, ht⟩ := HSZ.out s[k] (List.getElem_mem hlt)
      have hbE := bindE_zero (HZ.out.2.1 s[k] (List.getElem_mem hlt))
      have hll := lineB_len hbE.1 hbE.2.2.2.1
      have lift : ∀ (y : Tm) B e Z, Below wr.heap.size wr Z → RepP wr (fun b => b < w.heap.size) y B e → RepT Z Z.heap.size y B e := fun y B e Z hZ h =>
        RepP.mono (fun b (g : b < w.heap.size) => by have := hZ.size; omega) (fun p (hp : p.block < w.heap.size) => hZ.cell (by omega)) _ _ _ h
      obtain ⟨x1, hx1⟩ : ∃ x : ByteArray, x = ⟨s[k].1.text.toArray⟩ := ⟨_, rfl⟩
      obtain ⟨x2, hx2⟩ : ∃ x : ByteArray, x = ⟨s[k].2.text.toArray⟩ := ⟨_, rfl⟩
      have F1 : Hid (∀ Z, Below wr.heap.size wr Z → Calls Tryz.prog 69 #[s[k].1.val A c] Z fun e w' => e = .returned (.string x1) ∧ Lay Z.heap.size Z w') := Lib.hid fun Z hZ => by
        rw [hx1]; exact rtext_any 1000000 s[k].1 A c Z hx (Nat.le_refl _) (valid_check hbE.1).1 (lift _ _ _ Z hZ h8.r1)
      have F2 : Hid (∀ Z, Below wr.heap.size wr Z → Calls Tryz.prog 69 #[s[k].2.val A' c'] Z fun e w' => e = .returned (.string x2) ∧ Lay Z.heap.size Z w') := Lib.hid fun Z hZ => by
        rw [hx2]; exact rtext_any 1000000 s[k].2 A' c' Z ht (Nat.le_refl _) (valid_check hbE.2.2.2.1).1 (lift _ _ _ Z hZ h8.r2)
      have k1 : x1.size ≤ 16000 := by rw [hx1]; simpa [ByteArray.size] using hll.1
      have k2 : x2.size ≤ 16000 := by rw [hx2]; simpa [ByteArray.size] using hll.2.1
      have hln : x1.data.toList ++ [32, 61, 32] ++ x2.data.toList = lineB s[k] := by rw [hx1, hx2]; rfl
      have HLN := Lib.hid hln; clear hln hx1 hx2 hll hbE
      obtain ⟨a0, a1, a2, a3, b0, b1, b2, b3, -, -⟩ := h8
      have hos2 : o.size ≤ 7000000 := by omega
      have hps := partT_succ s k hlt
      have HPS := Lib.hid hps; clear hps
      have HOFF := Lib.hid hbB
      have cg : ∀ j v, wr.cell? ⟨kb, j, none⟩ = some v → ∀ n os, (grow (wr.drewN n) os).cell? ⟨kb, j, none⟩ = some v := fun j v h n os => by
        rw [(Lay.of_grow n os).below.cell (show kb < wr.heap.size from Nat.lt_of_lt_of_le HOFF.out hws)]; exact h
      have a0 := cg _ _ a0
      have a1 := cg _ _ a1
      have a2 := cg _ _ a2
      have a3 := cg _ _ a3
      have b0 := cg _ _ b0
      have b1 := cg _ _ b1
      have b2 := cg _ _ b2
      have b3 := cg _ _ b3
      simp only [Tm.val] at F1 F2
      clear cg hlr hl lift
      by_cases hk0 : k = 0
      · have c0 : decide (0 < k) = false := decide_eq_false (by omega)
        have HK0 : Hid (k = 0) := hk0; clear hk0
        have q1 : ¬ 9223372036854775807 < o.size + x1.size := by omega
        have q2 : ¬ 9223372036854775807 < o.size + x1.size + 3 := by omega
        have q3 : ¬ 9223372036854775807 < o.size + x1.size + 3 + x2.size := by omega
        go_wp2_with fail
        go_quiet_grown (first
          | (go_at_call 69; with_reducible exact quiet_lay (F1.out _ (Lay.of_grow _ _).below))
          | (go_at_call 69; with_reducible exact quiet_lay (F2.out _ (Lay.of_grow _ _).below)))
        go_wp2_with fail
        go_roundw
        case rel =>
          refine ⟨k + 1, o ++ x1 ++ ⟨#[32, 61, 32]⟩ ++ x2, by omega, by go_num, rfl, ?_, ?_, HLW.out.trans ((Lay.of_grow _ _).mono hws)⟩
          · simp only [ByteArray.size_append]
            have e1 : (⟨#[32, 61, 32]⟩ : ByteArray).size = 3 := rfl
            omega
          · show _ = _
            rw [HPS.out, if_pos HK0.out, ← HO.out, ← HLN.out]; simp
        case measure => simp [intOf]; omega
      · have c0 : decide (0 < k) = true := decide_eq_true (by omega)
        have HK0 : Hid (k ≠ 0) := hk0; clear hk0
        have q0 : ¬ 9223372036854775807 < o.size + 2 := by omega
        obtain ⟨o2, ho2⟩ : ∃ y, y = o ++ ⟨#[44, 32]⟩ := ⟨_, rfl⟩
        have ho3 : o2.size = o.size + 2 := by rw [ho2, ByteArray.size_append]; rfl
        have q1 : ¬ 9223372036854775807 < o2.size + x1.size := by omega
        have q2 : ¬ 9223372036854775807 < o2.size + x1.size + 3 := by omega
        have q3 : ¬ 9223372036854775807 < o2.size + x1.size + 3 + x2.size := by omega
        have HO3 := Lib.hid ho3; clear ho3
        go_wp2_with fail
        rw [← ho2]
        have HO2 := Lib.hid ho2; clear ho2
        go_quiet_grown (first
          | (go_at_call 69; with_reducible exact quiet_lay (F1.out _ (Lay.of_grow _ _).below))
          | (go_at_call 69; with_reducible exact quiet_lay (F2.out _ (Lay.of_grow _ _).below)))
        go_wp2_with fail
        go_roundw
        case rel =>
          refine ⟨k + 1, o2 ++ x1 ++ ⟨#[32, 61, 32]⟩ ++ x2, by omega, by go_num, rfl, ?_, ?_, HLW.out.trans ((Lay.of_grow _ _).mono hws)⟩
          · simp only [ByteArray.size_append]
            have e1 : (⟨#[32, 61, 32]⟩ : ByteArray).size = 3 := rfl
            have := HO3.out
            omega
          · show _ = _
            rw [HPS.out, if_neg HK0.out, ← HO.out, ← HLN.out, HO2.out]; simp
        case measure => simp [intOf]; omega
    · obtain rfl : k = s.length := by omega
      have hfb : formatB s = o.data.toList ++ [125] := by rw [HO.out]; unfold partT formatB; rw [List.take_length]
      have hos2 : o.size ≤ 7000000 := by omega
      have q1 : ¬ 9223372036854775807 < o.size + 1 := by omega
      have HFB := Lib.hid hfb; clear hfb
      go_wp2_with fail
      go_ret2
      refine ⟨?_, HLW.out⟩
      rw [HFB.out]
      have e : (⟨(o.data.toList ++ [125]).toArray⟩ : ByteArray) = o ++ ⟨#[125]⟩ := by
        apply ByteArray.ext; apply Array.toList_inj.1; rw [ByteArray.data_append, Array.toList_append]
      rw [e]
      rfl
end Go.Proofs.YtipmibjhlpnhjaaGreatDoor
