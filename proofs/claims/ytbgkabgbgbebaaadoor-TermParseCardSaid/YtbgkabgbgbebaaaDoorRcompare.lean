/- The reference's Compare. -/
import Derived.Test.YtbgkabgbgbebaaaDoorCompare
import Derived.WalkLawsBesides
namespace Go.Proofs.YtbgkabgbgbebaaaDoor
open Go.RowKit Go.Sort

theorem bytesLess_cmp : ∀ a b : List UInt8, Op.bytesLess a b = decide (Lib.compareBytes a b < 0)
  | [], [] => by simp [Op.bytesLess, Lib.compareBytes]
  | [], _ :: _ => by simp [Op.bytesLess, Lib.compareBytes]
  | _ :: _, [] => by simp [Op.bytesLess, Lib.compareBytes]
  | x :: a, y :: b => by
    rw [Op.bytesLess, Lib.compareBytes, bytesLess_cmp a b]
    by_cases h : x < y
    · simp [h]
    · by_cases h' : y < x
      · have hne : x ≠ y := fun e => by subst e; exact UInt8.lt_irrefl _ h'
        simp [h, h', hne]
      · have e : x = y := UInt8.le_antisymm (UInt8.not_lt.1 h') (UInt8.not_lt.1 h)
        subst e
        simp [h]
theorem bytesLess_names (a b : ByteArray) : Op.bytesLess a.toList b.toList = decide (Lib.compareBytes a.data.toList b.data.toList < 0) := by
  rw [Lib.toList_data, Lib.toList_data]; exact bytesLess_cmp _ _
theorem bytesEq_cmp (a b : ByteArray) : (a.toList == b.toList) = decide (Lib.compareBytes a.data.toList b.data.toList = 0) := by
  rw [Lib.toList_data, Lib.toList_data, Bool.eq_iff_iff]
  simp [bytes_zero]

set_option maxHeartbeats 4000000 in
set_option maxRecDepth 100000 in
theorem rcompare_any (n : Nat) : ∀ (t u : Tm) (A A' : Option Addr) (cap cap' : Nat) (w : World), t.size ≤ n → n ≤ 1000000 → u.size ≤ 1000000 → RepT w w.heap.size t A cap → RepT w w.heap.size u A' cap' →
    Calls Tryd.prog 19 #[t.val A cap, u.val A' cap'] w fun e w' => e = .returned (.int .i64 (t.cmp u)) ∧ Lay w.heap.size w w' := by
  induction n with
  | zero => intro t _ _ _ _ _ _ h; have := t.size_pos; omega
  | succ n ih =>
    intro t u A A' cap cap' w hn hb hu hrep hrep'
    have hsz := fun W h1 => rsize_any 1000000 t A cap W (by omega) (by omega) h1
    have hsz' := fun W h1 => rsize_any 1000000 u A' cap' W (by omega) (by omega) h1
    obtain ⟨tk, tn, ts, l⟩ := t
    obtain ⟨uk, un, us, m⟩ := u
    simp only [Tm.val, Tm.kind, Tm.name, Tm.sort, Tm.kids] at hsz hsz' ⊢
    have mixed : Tryd.prog.follows .mixedOrders = true := by kernel_rfl
    rw [Tm.cmp]
    have hll : l.length ≤ 1000000 := by have := Tm.length_le_sizes l; rw [Tm.size] at hn; omega
    have hml : m.length ≤ 1000000 := by have := Tm.length_le_sizes m; rw [Tm.size] at hu; omega
    obtain ⟨W, hW⟩ : ∃ W, W = (w.alloc (.cells #[.int .i64 tk, .string tn, .int .i64 ts, .slice A l.length cap] 24)).alloc (.cells #[.int .i64 uk, .string un, .int .i64 us, .slice A' m.length cap'] 24) := ⟨_, rfl⟩
    have hB1 : W.heap[w.heap.size]? = some (.cells #[.int .i64 tk, .string tn, .int .i64 ts, .slice A l.length cap] 24 (0, 0)) := by
      subst hW; rw [Below.heap_alloc _ _ _ (by simp)]; exact heap_alloc_new _ _
    have hB2 : W.heap[w.heap.size + 1]? = some (.cells #[.int .i64 uk, .string un, .int .i64 us, .slice A' m.length cap'] 24 (0, 0)) := by
      subst hW; have h := heap_alloc_new (w.alloc (.cells #[.int .i64 tk, .string tn, .int .i64 ts, .slice A l.length cap] 24)) (.cells #[.int .i64 uk, .string un, .int .i64 us, .slice A' m.length cap'] 24); rw [World.size_alloc] at h; exact h
    have hWs : W.heap.size = w.heap.size + 2 := by subst hW; simp
    have hWL : Lay w.heap.size w W := by subst hW; exact ((Lay.refl _ _).alloc (Nat.le_refl _) _).alloc (by simp) _
    obtain ⟨a0, a1, a2, a3⟩ := box_cells hB1
    obtain ⟨b0, b1, b2, b3⟩ := box_cells hB2
    have HB1 := Lib.hid hB1; clear hB1
    have HB2 := Lib.hid hB2; clear hB2
    have hsub : ∀ i (h : i < l.length), l[i].size ≤ n := fun i h => by have := Tm.sizes_get l i h; rw [Tm.size] at hn; omega
    have hsub' : ∀ i (h : i < m.length), m[i].size ≤ 1000000 := fun i h => by have := Tm.sizes_get m i h; rw [Tm.size] at hu; omega
    have HSUB := Lib.hid hsub; clear hsub
    have HSUB' := Lib.hid hsub'; clear hsub'
    generalize (Tm.mk tk tn ts l).size = s1 at *
    generalize (Tm.mk uk un us m).size = s2 at *
    have HSZ := Lib.hid hsz; clear hsz
    have HSZ' := Lib.hid hsz'; clear hsz'
    have HR := Lib.hid hrep; clear hrep
    have HR' := Lib.hid hrep'; clear hrep'
    have IH := Lib.hid ih; clear ih
    have HW := Lib.hid hW; clear hW
    have S1 := fun X => number_any (s1 : Int) (s2 : Int) X
    have S2 := fun X => number_any tk uk X
    have N1 := bytesLess_names tn un
    have N2 := bytesEq_cmp tn un
    have S4 := fun X => number_any ts us X
    have S5 := fun X => number_any (l.length : Int) (m.length : Int) X
    have hlm : sgn (l.length : Int) (m.length : Int) = 0 → l.length = m.length := fun h => by have := sgn_zero.1 h; omega
    generalize sgn (s1 : Int) (s2 : Int) = c1 at *
    generalize sgn tk uk = c2 at *
    have hu3' : Unit3 (Lib.compareBytes tn.data.toList un.data.toList) := bytes_unit _ _
    generalize Lib.compareBytes tn.data.toList un.data.toList = c3 at *
    generalize sgn ts us = c4 at *
    generalize sgn (l.length : Int) (m.length : Int) = c5 at *
    have HS1 := Lib.hid S1; clear S1
    have HS2 := Lib.hid S2; clear S2
    have HS4 := Lib.hid S4; clear S4
    have HS5 := Lib.hid S5; clear S5
    have hu3 : c3 = -1 ∨ c3 = 0 ∨ c3 = 1 := hu3'
    clear hu3'
    have hzs : c1 ≠ 0 ∨ (c1 = 0 ∧ c2 ≠ 0) ∨ (c1 = 0 ∧ c2 = 0 ∧ c3 = -1) ∨ (c1 = 0 ∧ c2 = 0 ∧ c3 = 1) ∨ (c1 = 0 ∧ c2 = 0 ∧ c3 = 0 ∧ c4 ≠ 0) ∨ (c1 = 0 ∧ c2 = 0 ∧ c3 = 0 ∧ c4 = 0 ∧ c5 ≠ 0) ∨ (c1 = 0 ∧ c2 = 0 ∧ c3 = 0 ∧ c4 = 0 ∧ c5 = 0) := by omega
    clear hu3
    rcases hzs with z | ⟨rfl, z⟩ | ⟨rfl, rfl, rfl⟩ | ⟨rfl, rfl, rfl⟩ | ⟨rfl, rfl, rfl, z⟩ | ⟨rfl, rfl, rfl, rfl, z⟩ | ⟨rfl, rfl, rfl, rfl, rfl⟩
    · have z' : (c1 != 0) = true := by simpa using z
      clear hlm
      clear N1 N2
      rw [ord_nz _ z]
      clear z
      go_enter Tryd.func19, Tryd.ntmps19
      go_wp2_with fail
      rw [← HW.out]
      go_quiet_grown (first
        | (go_at_call 50; exact quiet_eq (HS1.out _))
        | (go_at_call_of 14 tn; refine quiet_lay (HSZ.out _ ?_); exact HR.out.go (hWL.trans ((Lay.of_grow _ _).mono hWL.size)).below (Nat.le_trans hWL.size (Lay.of_grow _ _).size))
        | (go_at_call_of 14 un; refine quiet_lay (HSZ'.out _ ?_); exact HR'.out.go (hWL.trans ((Lay.of_grow _ _).mono hWL.size)).below (Nat.le_trans hWL.size (Lay.of_grow _ _).size)))
      go_wp2_with (first
        | (go_at_call_of 50 tk; refine (HS2.out _).mono ?_; rintro e w1 ⟨rfl, rfl⟩)
        | (go_at_call_of 50 ts; refine (HS4.out _).mono ?_; rintro e w1 ⟨rfl, rfl⟩)
        | (go_at_call_of 50 l; refine (HS5.out _).mono ?_; rintro e w1 ⟨rfl, rfl⟩))
      go_ret
      exact ⟨rfl, hWL.trans ((Lay.of_grow _ _).mono hWL.size)⟩
    · have z' : (c2 != 0) = true := by simpa using z
      clear hlm
      clear N1 N2
      rw [ord_z, ord_nz _ z]
      clear z
      go_enter Tryd.func19, Tryd.ntmps19
      go_wp2_with fail
      rw [← HW.out]
      go_quiet_grown (first
        | (go_at_call 50; exact quiet_eq (HS1.out _))
        | (go_at_call_of 14 tn; refine quiet_lay (HSZ.out _ ?_); exact HR.out.go (hWL.trans ((Lay.of_grow _ _).mono hWL.size)).below (Nat.le_trans hWL.size (Lay.of_grow _ _).size))
        | (go_at_call_of 14 un; refine quiet_lay (HSZ'.out _ ?_); exact HR'.out.go (hWL.trans ((Lay.of_grow _ _).mono hWL.size)).below (Nat.le_trans hWL.size (Lay.of_grow _ _).size)))
      go_wp2_with (first
        | (go_at_call_of 50 tk; refine (HS2.out _).mono ?_; rintro e w1 ⟨rfl, rfl⟩)
        | (go_at_call_of 50 ts; refine (HS4.out _).mono ?_; rintro e w1 ⟨rfl, rfl⟩)
        | (go_at_call_of 50 l; refine (HS5.out _).mono ?_; rintro e w1 ⟨rfl, rfl⟩))
      go_ret
      exact ⟨rfl, hWL.trans ((Lay.of_grow _ _).mono hWL.size)⟩
    · have z : True := trivial
      clear hlm
      replace N1 : Op.bytesLess tn.toList un.toList = true := by rw [N1]; decide
      replace N2 : (tn.toList == un.toList) = false := by rw [N2]; decide
      rw [ord_z, ord_z, ord_nz _ (by decide)]
      clear z
      go_enter Tryd.func19, Tryd.ntmps19
      go_wp2_with fail
      rw [← HW.out]
      go_quiet_grown (first
        | (go_at_call 50; exact quiet_eq (HS1.out _))
        | (go_at_call_of 14 tn; refine quiet_lay (HSZ.out _ ?_); exact HR.out.go (hWL.trans ((Lay.of_grow _ _).mono hWL.size)).below (Nat.le_trans hWL.size (Lay.of_grow _ _).size))
        | (go_at_call_of 14 un; refine quiet_lay (HSZ'.out _ ?_); exact HR'.out.go (hWL.trans ((Lay.of_grow _ _).mono hWL.size)).below (Nat.le_trans hWL.size (Lay.of_grow _ _).size)))
      go_wp2_with (first
        | (go_at_call_of 50 tk; refine (HS2.out _).mono ?_; rintro e w1 ⟨rfl, rfl⟩)
        | (go_at_call_of 50 ts; refine (HS4.out _).mono ?_; rintro e w1 ⟨rfl, rfl⟩)
        | (go_at_call_of 50 l; refine (HS5.out _).mono ?_; rintro e w1 ⟨rfl, rfl⟩))
      go_ret
      exact ⟨rfl, hWL.trans ((Lay.of_grow _ _).mono hWL.size)⟩
    · have z : True := trivial
      clear hlm
      replace N1 : Op.bytesLess tn.toList un.toList = false := by rw [N1]; decide
      replace N2 : (tn.toList == un.toList) = false := by rw [N2]; decide
      have N3 : (!(Op.bytesLess tn.toList un.toList) && !(tn.toList == un.toList)) = true := by rw [N1, N2]; rfl
      have N4 : ¬ tn.toList = un.toList := by simpa using N2
      rw [ord_z, ord_z, ord_nz _ (by decide)]
      clear z
      go_enter Tryd.func19, Tryd.ntmps19
      go_wp2_with fail
      rw [← HW.out]
      go_quiet_grown (first
        | (go_at_call 50; exact quiet_eq (HS1.out _))
        | (go_at_call_of 14 tn; refine quiet_lay (HSZ.out _ ?_); exact HR.out.go (hWL.trans ((Lay.of_grow _ _).mono hWL.size)).below (Nat.le_trans hWL.size (Lay.of_grow _ _).size))
        | (go_at_call_of 14 un; refine quiet_lay (HSZ'.out _ ?_); exact HR'.out.go (hWL.trans ((Lay.of_grow _ _).mono hWL.size)).below (Nat.le_trans hWL.size (Lay.of_grow _ _).size)))
      go_wp2_with (first
        | (go_at_call_of 50 tk; refine (HS2.out _).mono ?_; rintro e w1 ⟨rfl, rfl⟩)
        | (go_at_call_of 50 ts; refine (HS4.out _).mono ?_; rintro e w1 ⟨rfl, rfl⟩)
        | (go_at_call_of 50 l; refine (HS5.out _).mono ?_; rintro e w1 ⟨rfl, rfl⟩))
      go_ret
      exact ⟨rfl, hWL.trans ((Lay.of_grow _ _).mono hWL.size)⟩
    · have z' : (c4 != 0) = true := by simpa using z
      clear hlm
      replace N1 : Op.bytesLess tn.toList un.toList = false := by rw [N1]; decide
      replace N2 : (tn.toList == un.toList) = true := by rw [N2]; decide
      rw [ord_z, ord_z, ord_z, ord_nz _ z]
      clear z
      go_enter Tryd.func19, Tryd.ntmps19
      go_wp2_with fail
      rw [← HW.out]
      go_quiet_grown (first
        | (go_at_call 50; exact quiet_eq (HS1.out _))
        | (go_at_call_of 14 tn; refine quiet_lay (HSZ.out _ ?_); exact HR.out.go (hWL.trans ((Lay.of_grow _ _).mono hWL.size)).below (Nat.le_trans hWL.size (Lay.of_grow _ _).size))
        | (go_at_call_of 14 un; refine quiet_lay (HSZ'.out _ ?_); exact HR'.out.go (hWL.trans ((Lay.of_grow _ _).mono hWL.size)).below (Nat.le_trans hWL.size (Lay.of_grow _ _).size)))
      go_wp2_with (first
        | (go_at_call_of 50 tk; refine (HS2.out _).mono ?_; rintro e w1 ⟨rfl, rfl⟩)
        | (go_at_call_of 50 ts; refine (HS4.out _).mono ?_; rintro e w1 ⟨rfl, rfl⟩)
        | (go_at_call_of 50 l; refine (HS5.out _).mono ?_; rintro e w1 ⟨rfl, rfl⟩))
      go_ret
      exact ⟨rfl, hWL.trans ((Lay.of_grow _ _).mono hWL.size)⟩
    · have z' : (c5 != 0) = true := by simpa using z
      clear hlm
      replace N1 : Op.bytesLess tn.toList un.toList = false := by rw [N1]; decide
      replace N2 : (tn.toList == un.toList) = true := by rw [N2]; decide
      rw [ord_z, ord_z, ord_z, ord_z, ord_nz _ z]
      clear z
      go_enter Tryd.func19, Tryd.ntmps19
      go_wp2_with fail
      rw [← HW.out]
      go_quiet_grown (first
        | (go_at_call 50; exact quiet_eq (HS1.out _))
        | (go_at_call_of 14 tn; refine quiet_lay (HSZ.out _ ?_); exact HR.out.go (hWL.trans ((Lay.of_grow _ _).mono hWL.size)).below (Nat.le_trans hWL.size (Lay.of_grow _ _).size))
        | (go_at_call_of 14 un; refine quiet_lay (HSZ'.out _ ?_); exact HR'.out.go (hWL.trans ((Lay.of_grow _ _).mono hWL.size)).below (Nat.le_trans hWL.size (Lay.of_grow _ _).size)))
      go_wp2_with (first
        | (go_at_call_of 50 tk; refine (HS2.out _).mono ?_; rintro e w1 ⟨rfl, rfl⟩)
        | (go_at_call_of 50 ts; refine (HS4.out _).mono ?_; rintro e w1 ⟨rfl, rfl⟩)
        | (go_at_call_of 50 l; refine (HS5.out _).mono ?_; rintro e w1 ⟨rfl, rfl⟩))
      go_ret
      exact ⟨rfl, hWL.trans ((Lay.of_grow _ _).mono hWL.size)⟩
    · have HLEN := Lib.hid (hlm rfl)
      clear hlm
      simp only [ord_z]
      replace N1 : Op.bytesLess tn.toList un.toList = false := by rw [N1]; decide
      replace N2 : (tn.toList == un.toList) = true := by rw [N2]; decide
      go_enter Tryd.func19, Tryd.ntmps19
      go_wp2_with fail
      rw [← HW.out]
      go_quiet_grown (first
        | (go_at_call 50; exact quiet_eq (HS1.out _))
        | (go_at_call_of 14 tn; refine quiet_lay (HSZ.out _ ?_); exact HR.out.go (hWL.trans ((Lay.of_grow _ _).mono hWL.size)).below (Nat.le_trans hWL.size (Lay.of_grow _ _).size))
        | (go_at_call_of 14 un; refine quiet_lay (HSZ'.out _ ?_); exact HR'.out.go (hWL.trans ((Lay.of_grow _ _).mono hWL.size)).below (Nat.le_trans hWL.size (Lay.of_grow _ _).size)))
      go_wp2_with (first
        | (go_at_call_of 50 tk; refine (HS2.out _).mono ?_; rintro e w1 ⟨rfl, rfl⟩)
        | (go_at_call_of 50 ts; refine (HS4.out _).mono ?_; rintro e w1 ⟨rfl, rfl⟩)
        | (go_at_call_of 50 l; refine (HS5.out _).mono ?_; rintro e w1 ⟨rfl, rfl⟩))
      obtain ⟨X, HX⟩ : ∃ X, Hid (X = grow (W.drewN nq) osq) := ⟨_, rfl⟩
      have hXL : Lay (w.heap.size + 2) W X := by rw [HX.out, ← hWs]; exact Lay.of_grow _ _
      rw [← HX.out]
      go_loopw [4, 9, 10] (fun _ i _ wr => ∃ (k : Nat), k ≤ l.length ∧ i = .int .i64 k ∧ Hid (Tm.cmps l m = Tm.cmps (l.drop k) (m.drop k)) ∧ Lay (w.heap.size + 2) W wr)
        (fun _ i _ _ => l.length - (intOf i).toNat)
      case atStart => exact ⟨0, Nat.zero_le _, rfl, by simp [Hid], hXL⟩
      case round =>
        clear a0 a1 a2 a3 b0 b1 b2 b3 hXL
        obtain ⟨k, hk, rfl, HL, hbel⟩ := hrel
        have hwr : Lay w.heap.size w wr := hWL.trans (hbel.mono (by omega))
        have hsz := hbel.size
        obtain ⟨a0, a1, a2, a3⟩ := box_cells ((hbel.below.block w.heap.size (by omega)).trans HB1.out)
        obtain ⟨b0, b1, b2, b3⟩ := box_cells ((hbel.below.block (w.heap.size + 1) (by omega)).trans HB2.out)
        have d3 : wr.cell? ⟨w.heap.size, 3, none⟩ = some (.slice A l.length cap) := a3 0 #[]
        by_cases hlt : k < l.length
        · have hkm : k < m.length := by have := HLEN.out; omega
          have hr := HR.out
          have hr' := HR'.out
          rw [RepT_mk] at hr hr'
          obtain ⟨_, hc1, hc2, hr4⟩ := hr
          obtain ⟨_, hc1', hc2', hr4'⟩ := hr'
          rcases hr4 with rfl | ⟨b, off, rfl, hbB, hl⟩
          · simp at hlt
          rcases hr4' with rfl | ⟨b', off', rfl, hbB', hl'⟩
          · simp at hkm
          obtain ⟨A1, cap1, e0, e1, e2, e3, hrt⟩ := hl.get_grown hwr hbB (Nat.le_refl _) k hlt
          obtain ⟨A2, cap2, g0, g1, g2, g3, hrt'⟩ := hl'.get_grown hwr hbB' (Nat.le_refl _) k hkm
          have HC0 : Hid (Tm.cmps l m = ord (Tm.cmp l[k] m[k]) (Tm.cmps (l.drop (k + 1)) (m.drop (k + 1)))) := by
            rw [HL.out, List.drop_eq_getElem_cons hlt, List.drop_eq_getElem_cons hkm, Tm.cmps]; exact rfl
          have CK := Lib.hid (show ∀ X, RepT X X.heap.size l[k] A1 cap1 → RepT X X.heap.size m[k] A2 cap2 → Calls Tryd.prog 19 #[l[k].val A1 cap1, m[k].val A2 cap2] X fun e w' => e = .returned (.int .i64 (Tm.cmp l[k] m[k])) ∧ Lay X.heap.size X w' from fun X hX hX' => IH.out l[k] m[k] A1 A2 cap1 cap2 X (HSUB.out k hlt) (by omega) (HSUB'.out k hkm) hX hX')
          clear hl hl' hc1 hc1' hc2 hc2'
          have HRT := Lib.hid hrt; clear hrt
          have HRT' := Lib.hid hrt'; clear hrt'
          generalize Tm.cmp l[k] m[k] = c' at *
          simp only [Tm.val] at CK
          go_wp2_with fail
          go_quiet_grown ((go_at_call 19; refine quiet_lay (CK.out _ ?_ ?_); exact HRT.out.go ((Lay.of_grow _ _).mono (by omega)).below (Nat.le_trans (by omega) (Lay.of_grow _ _).size); exact HRT'.out.go ((Lay.of_grow _ _).mono (by omega)).below (Nat.le_trans (by omega) (Lay.of_grow _ _).size)))
          by_cases hc : c' = 0
          · subst hc
            have HC : Hid (Tm.cmps l m = Tm.cmps (l.drop (k + 1)) (m.drop (k + 1))) := by rw [HC0.out, ord_z]; exact rfl
            go_wp2_with fail
            go_roundw
            case rel => exact ⟨k + 1, by omega, by go_num, HC, hbel.trans ((Lay.of_grow _ _).mono (by omega))⟩
            case measure => simp [intOf]; omega
          · have hc' : (c' != 0) = true := by simpa using hc
            have HE : Hid (Tm.cmps l m = c') := by rw [HC0.out, ord_nz _ hc]; exact rfl
            clear hc
            go_wp2_with fail
            go_ret
            exact ⟨ret_int HE.out.symm, hwr.trans ((Lay.of_grow _ _).mono (by omega))⟩
        · obtain rfl : k = l.length := by omega
          go_wp2_with fail
          go_ret
          exact ⟨ret_int (by rw [HL.out]; simp [Tm.cmps]), hwr⟩
end Go.Proofs.YtbgkabgbgbebaaaDoor
