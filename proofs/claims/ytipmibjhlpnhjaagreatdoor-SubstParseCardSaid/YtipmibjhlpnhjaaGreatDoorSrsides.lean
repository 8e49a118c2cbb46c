/- The reference's sides. -/
import Derived.Test.YtipmibjhlpnhjaaGreatDoorSrformat
namespace Go.Proofs.YtipmibjhlpnhjaaGreatDoor
open Go.RowKit Go.Sort

/-- the two sides of a piece -/
def sidesE (l : List UInt8) : List UInt8 × List UInt8 × Bool :=
  if 0 ≤ Lib.index l [32, 61, 32] then (l.take (Lib.index l [32, 61, 32]).toNat, l.drop ((Lib.index l [32, 61, 32]).toNat + 3), true) else ([], [], false)
theorem occAt_take (l : List UInt8) (k : Nat) : Lib.occAt l [32, 61, 32] k = ((l.drop k).take 3 == [32, 61, 32]) := by
  rw [Lib.occAt, Bool.eq_iff_iff, List.isPrefixOf_iff_prefix, List.prefix_iff_eq_take, beq_iff_eq]
  exact eq_comm

set_option maxHeartbeats 1000000 in
theorem rsides_any (s : ByteArray) (w : World) (hs : s.size ≤ 100000) : Calls Tryz.prog 77 #[.string s] w fun e w' =>
    e = .returned (.tuple #[.string ⟨(sidesE s.data.toList).1.toArray⟩, .string ⟨(sidesE s.data.toList).2.1.toArray⟩, .bool (sidesE s.data.toList).2.2]) ∧ Lay w.heap.size w w' := by
  obtain ⟨l, hl⟩ : ∃ l, l = s.data.toList := ⟨_, rfl⟩
  have hsz : s.size = l.length := by rw [hl]; exact size_list s
  have hex : ∀ k, (s.extract k (k + 3)).data.toList = (l.drop k).take 3 := fun k => by rw [extract_list, hl]; congr 1; omega
  have HEX := Lib.hid hex; clear hex
  rw [← hl]
  have HL := Lib.hid hl; clear hl
  obtain ⟨r, hr⟩ : ∃ r, r = sidesE l := ⟨_, rfl⟩
  rw [← hr]
  have HR := Lib.hid hr; clear hr
  go_enter Tryz.func77, Tryz.ntmps77
  go_wp2_with fail
  go_loopw [5] (fun i wr => ∃ k : Nat, k ≤ l.length ∧ i = .int .i64 k ∧ Hid (Lib.NoOcc l [32, 61, 32] k) ∧ wr = w) (fun i _ => l.length - (intOf i).toNat)
  case atStart => exact ⟨0, Nat.zero_le _, rfl, fun j h => absurd h (Nat.not_lt_zero j), rfl⟩
  case round =>
    obtain ⟨k, hk, rfl, HK, rfl⟩ := hrel
    have i1 : (0 : Int) ≤ (k : Int) := Int.natCast_nonneg _
    by_cases hlt : k + 3 ≤ l.length
    · have i2 : (k : Int) + 3 ≤ (l.length : Int) := by omega
      have hx := HEX.out k
      obtain ⟨q, hq⟩ : ∃ q, q = ((s.extract k (k + 3)).toList == [32, 61, 32]) := ⟨_, rfl⟩
      have ho : Lib.occAt l [32, 61, 32] k = q := by rw [occAt_take, ← hx, hq, ByteArray.toList_eq]
      have HO := Lib.hid ho; clear ho hx
      have hq2 := hq.symm
      cases q with
      | true =>
        have hi := Lib.index_hit HK.out (by omega) HO.out
        have hr : r = (l.take k, l.drop (k + 3), true) := by rw [HR.out]; unfold sidesE; rw [hi]; simp
        subst hr
        have e1 : (⟨(l.take k).toArray⟩ : ByteArray) = s.extract 0 k := by
          apply ByteArray.ext; apply Array.toList_inj.1; rw [← ByteArray.toList_eq, ← ByteArray.toList_eq, ByteArray.toList_eq, ByteArray.toList_eq, extract_list, ← HL.out]; simp
        have e2 : (⟨(l.drop (k + 3)).toArray⟩ : ByteArray) = s.extract (k + 3) s.size := by
          apply ByteArray.ext; apply Array.toList_inj.1; rw [extract_rest, ← HL.out]
        have E1 := Lib.hid e1; clear e1
        have E2 := Lib.hid e2; clear e2
        clear hq hi HR
        go_wp2_with fail
        go_quiet (fail)
        go_wp2_with fail
        refine bodyPost_ret (v := .tuple #[.string (s.extract 0 k), .string (s.extract (k + 3) l.length), .bool true]) ?_ rfl ?_
        · simp [results, Tryz.results77, go_sem]
        exact ⟨by rw [E1.out, E2.out, hsz], (Lay.refl _ _).drewN _⟩
      | false =>
        clear hq
        go_wp2_with fail
        go_roundw
        case rel =>
          refine ⟨k + 1, by omega, by go_num, fun j hj => ?_, trivial⟩
          by_cases e : j = k
          · subst e; exact HO.out
          · exact HK.out j (by omega)
        case measure => simp [intOf]; omega
    · have hi := Lib.index_past (by simp) HK.out (by simp; omega)
      have hr : r = ([], [], false) := by rw [HR.out]; unfold sidesE; rw [hi]; rfl
      subst hr
      have i2 : ¬ (k : Int) + 3 ≤ (l.length : Int) := by omega
      clear HR hi
      go_wp2_with fail
      refine bodyPost_ret (v := .tuple #[.string ⟨#[]⟩, .string ⟨#[]⟩, .bool false]) ?_ rfl ?_
      · simp [results, Tryz.results77, go_sem]
      exact ⟨rfl, Lay.refl _ _⟩
end Go.Proofs.YtipmibjhlpnhjaaGreatDoor
