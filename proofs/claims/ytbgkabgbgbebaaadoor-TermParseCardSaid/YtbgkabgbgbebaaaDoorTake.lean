/- The parser: take, name, sort. -/
import Derived.Test.YtbgkabgbgbebaaaDoorValid
import Derived.Test.YtbgkabgbgbebaaaDoorCompare
import Derived.Test.YtbgkabgbgbebaaaDoorShl
namespace Go.Proofs.YtbgkabgbgbebaaaDoor
open Go.RowKit Go.Sort

/-- the parser's cells -/
def Prs (pb : Nat) (s : ByteArray) (at' : Nat) (w : World) : Prop := w.heap[pb]? = some (.cells #[.string s, .int .i64 at'] 74 (0, 0))
/-- what reading turns: the parser's block, and new blocks -/
structure Moves (pb : Nat) (w w' : World) : Prop where
  size : w.heap.size ≤ w'.heap.size
  same : ∀ b, b < w.heap.size → b ≠ pb → w'.heap[b]? = w.heap[b]?
  os : w'.os = w.os
  tape : w'.tape = w.tape
  output : w'.output = w.output
theorem Moves.refl (pb : Nat) (w : World) : Moves pb w w := ⟨Nat.le_refl _, fun _ _ _ => rfl, rfl, rfl, rfl⟩
theorem Moves.trans {pb : Nat} {a b c : World} (h : Moves pb a b) (k : Moves pb b c) : Moves pb a c :=
  ⟨Nat.le_trans h.size k.size, fun x hx h1 => (k.same x (Nat.lt_of_lt_of_le hx h.size) h1).trans (h.same x hx h1), k.os.trans h.os, k.tape.trans h.tape, k.output.trans h.output⟩
theorem Moves.of_below {pb : Nat} {w w' : World} (h : Below w.heap.size w w') : Moves pb w w' := ⟨h.size, fun b hb _ => h.block b hb, h.os, h.tape, h.output⟩
theorem Moves.set {pb o : Nat} (w : World) (v : Value) : Moves pb w (w.setCell ⟨pb, o, none⟩ v) :=
  ⟨by simp [World.setCell], fun b _ hne => Below.heap_setCell _ _ _ _ (by exact hne), rfl, rfl, rfl⟩
theorem Prs.set {pb at' n : Nat} {s : ByteArray} {w : World} (h : Prs pb s at' w) : Prs pb s n (w.setCell ⟨pb, 1, none⟩ (.int .i64 n)) := by
  unfold Prs at h ⊢
  simp [World.setCell, Array.getElem?_modify, h]
theorem Prs.cells {pb at' : Nat} {s : ByteArray} {w : World} (h : Prs pb s at' w) : w.cell? ⟨pb, 0, none⟩ = some (.string s) ∧ w.cell? ⟨pb, 1, none⟩ = some (.int .i64 at') ∧ w.frozen? ⟨pb, 1, none⟩ = false := by
  unfold Prs at h
  simp [World.cell?, World.frozen?, h]

theorem extract_list (s : ByteArray) (i j : Nat) : (s.extract i j).data.toList = (s.data.toList.drop i).take (j - i) := by
  rw [ByteArray.data_extract, Array.toList_extract]
theorem extract_rest (s : ByteArray) (i : Nat) : (s.extract i s.size).data.toList = s.data.toList.drop i := by
  rw [extract_list, List.take_of_length_le]
  rw [List.length_drop, size_list]; exact Nat.le_refl _

theorem take_any (pb : Nat) (s x : ByteArray) (i : Nat) (w : World) (hp : Prs pb s i w) (hi : i ≤ s.size) (hs : s.size ≤ 1000000000) (hx : x.size ≤ 1000000000) :
    Calls Tryd.prog 77 #[.pointer (some ⟨pb, 0, none⟩), .string x] w fun e w' => e = .returned (.bool (Lib.hasPrefix (s.data.toList.drop i) x.data.toList)) ∧ Moves pb w w' ∧ Prs pb s (if Lib.hasPrefix (s.data.toList.drop i) x.data.toList then i + x.size else i) w' := by
  obtain ⟨c0, c1, c2⟩ := hp.cells
  have hlt : pb < w.heap.size := (Array.getElem?_eq_some_iff.1 hp).1
  have HP := Lib.hid (fun X => Tryd.strings_HasPrefix (s.extract i s.size) x X)
  rw [extract_rest] at HP
  have HPR := Lib.hid hp; clear hp
  have i1 : (0 : Int) ≤ (i : Int) := Int.natCast_nonneg _
  have i2 : (i : Int) ≤ (s.size : Int) := by omega
  cases hc : Lib.hasPrefix (s.data.toList.drop i) x.data.toList with
  | true =>
    rw [hc] at HP
    clear hc
    go_enter Tryd.func77, Tryd.ntmps77
    go_wp2_with fail
    go_quiet ((go_at_call 88; exact Calls.quiet_of_same (HP.out _)))
    go_wp2_with fail
    go_ret
    have hq : Moves pb w (w.drewN nq) := Moves.of_below ((Lay.refl _ _).drewN nq).below
    refine ⟨rfl, hq.trans (Moves.set _ _), ?_⟩
    have h := Prs.set (n := i + x.size) (show Prs pb s i (w.drewN nq) from HPR.out)
    rw [Int.natCast_add] at h
    exact h
  | false =>
    rw [hc] at HP
    clear hc
    go_enter Tryd.func77, Tryd.ntmps77
    go_wp2_with fail
    go_quiet ((go_at_call 88; exact Calls.quiet_of_same (HP.out _)))
    go_wp2_with fail
    go_ret
    have hq : Moves pb w (w.drewN nq) := Moves.of_below ((Lay.refl _ _).drewN nq).below
    exact ⟨rfl, hq, HPR.out⟩

theorem takeWhile_eq : ∀ (l : List UInt8) (m : Nat), m ≤ l.length → (∀ j, (h : j < l.length) → j < m → partB l[j] = true) → (∀ h : m < l.length, partB l[m] = false) → l.takeWhile partB = l.take m ∧ l.dropWhile partB = l.drop m
  | [], m, _, _, _ => by simp
  | b :: l, 0, _, _, h => by
    have := h (by simp)
    simp only [List.getElem_cons_zero] at this
    simp [this]
  | b :: l, m + 1, hm, h1, h2 => by
    have hb := h1 0 (by simp) (by omega)
    simp only [List.getElem_cons_zero] at hb
    have ih := takeWhile_eq l m (by simpa using hm) (fun j hj hjm => by have := h1 (j + 1) (by simpa using hj) (by omega); simpa using this) (fun h => by have := h2 (by simpa using h); simpa using this)
    rw [List.takeWhile_cons_of_pos hb, List.dropWhile_cons_of_pos hb, ih.1, ih.2]
    simp

/-- the length of the longest prefix that could be part of a name -/
def wlen (l : List UInt8) : Nat := (l.takeWhile partB).length

set_option maxHeartbeats 2000000 in
theorem name_any (pb : Nat) (s : ByteArray) (i : Nat) (w : World) (hp : Prs pb s i w) (hi : i ≤ s.size) (hs : s.size ≤ 1000000000) :
    Calls Tryd.prog 78 #[.pointer (some ⟨pb, 0, none⟩)] w fun e w' => ∃ x : ByteArray, e = .returned (.tuple #[.string x, .bool (nameL x.data.toList)]) ∧ x.data.toList = (s.data.toList.drop i).takeWhile partB ∧ x.size ≤ s.size ∧
      Moves pb w w' ∧ Prs pb s (i + wlen (s.data.toList.drop i)) w' ∧ i + wlen (s.data.toList.drop i) ≤ s.size := by
  have mixed : Tryd.prog.follows .mixedOrders = true := by kernel_rfl
  obtain ⟨c0, c1, c2⟩ := hp.cells
  have HPR := Lib.hid hp; clear hp
  have PA := Lib.hid part_any
  have hsl := size_list s
  have HAT : Hid (∀ k, (h : k < s.size) → s[k] = s.data.toList[k]'(by rw [← size_list]; exact h)) := fun k h => rfl
  have hfin : ∀ k, i ≤ k → k ≤ s.size → (∀ j, (h : j < s.data.toList.length) → i ≤ j → j < k → partB s.data.toList[j] = true) → (∀ h : k < s.size, partB (s.data.toList[k]'(by rw [← size_list]; exact h)) = false) →
      (s.extract i k).data.toList = (s.data.toList.drop i).takeWhile partB ∧ i + wlen (s.data.toList.drop i) = k ∧ (s.extract i k).size ≤ s.size := fun k hik hks h1 h2 => by
    obtain ⟨e1, _⟩ := takeWhile_eq (s.data.toList.drop i) (k - i) (by rw [List.length_drop, ← hsl]; omega)
      (fun j hj hjk => by rw [List.getElem_drop]; exact h1 _ _ (by omega) (by omega)) (fun h => by
        rw [List.getElem_drop]
        have hk : k < s.size := by rw [List.length_drop, ← hsl] at h; omega
        have := h2 hk
        rw [← this]; congr 2; omega)
    refine ⟨by rw [extract_list, e1], ?_, by rw [ByteArray.size_extract]; omega⟩
    unfold wlen; rw [e1, List.length_take, List.length_drop, ← hsl]; omega
  have HF := Lib.hid hfin; clear hfin
  have HSL := Lib.hid hsl; clear hsl
  go_enter Tryd.func78, Tryd.ntmps78
  go_wp2_with fail
  go_loopw [30] (fun _ wr => ∃ k : Nat, i ≤ k ∧ k ≤ s.size ∧ Hid (Prs pb s k wr) ∧ Hid (Moves pb w wr) ∧ Hid (∀ j, (h : j < s.data.toList.length) → i ≤ j → j < k → partB s.data.toList[j] = true))
    (fun _ wr => s.size - (intOf ((wr.cell? ⟨pb, 1, none⟩).getD undef)).toNat)
  case atStart => exact ⟨i, Nat.le_refl _, hi, HPR.out, Moves.refl _ _, fun j _ h1 h2 => by omega⟩
  case round =>
    obtain ⟨k, hik, hks, HP, HM, HA⟩ := hrel
    obtain ⟨d0, d1, d2⟩ := HP.out.cells
    have i1 : (0 : Int) ≤ (k : Int) := Int.natCast_nonneg _
    have i3 : (i : Int) ≤ (k : Int) := by omega
    have i4 : (k : Int) ≤ (s.size : Int) := by omega
    have hxs : (s.extract i k).size ≤ maxLen := by rw [ByteArray.size_extract]; unfold maxLen; omega
    have HN := Lib.hid (fun X => isName_any (s.extract i k) X hxs)
    clear hxs
    by_cases hlt : k < s.size
    · have hd : decide ((k : Int) < (s.size : Int)) = true := decide_eq_true (by omega)
      have hat := HAT.out k hlt
      obtain ⟨b, hb⟩ : ∃ b, b = s.data.toList[k]'(by rw [← HSL.out]; exact hlt) := ⟨_, rfl⟩
      rw [← hb] at hat
      have HB := Lib.hid hb; clear hb
      cases hpb : partI (b.toNat : Int) with
      | true =>
        have PB : Hid (∀ X, Calls Tryd.prog 87 #[.int .u8 b.toNat] X fun e w' => e = .returned (.bool true) ∧ w' = X) := fun X => by have := PA.out b.toNat X; rwa [hpb] at this
        have HPB := Lib.hid hpb; clear hpb
        go_wp2_with fail
        go_quiet ((go_at_call 87; exact Calls.quiet_of_same (PB.out _)))
        go_wp2_with fail
        go_roundw
        case rel =>
          have h := Prs.set (n := k + 1) (show Prs pb s k (wr.drewN nq) from HP.out)
          rw [Int.natCast_add] at h
          refine ⟨k + 1, by omega, by omega, h, HM.out.trans ((Moves.of_below ((Lay.refl _ _).drewN nq).below).trans (Moves.set _ _)), fun j hj h1 h2 => ?_⟩
          by_cases e : j = k
          · subst e; unfold partB; rw [← HB.out]; exact HPB.out
          · exact HA.out j hj h1 (by omega)
        case measure =>
          have h := (Prs.set (n := k + 1) (show Prs pb s k (wr.drewN nq) from HP.out)).cells.2.1
          rw [Int.natCast_add] at h
          have h2 := HP.out.cells.2.1
          have h3 : ((wr.drewN nq).setCell ⟨pb, 1, none⟩ (.int .i64 ((k : Int) + 1))).cell? ⟨pb, 1, none⟩ = some (.int .i64 ((k : Int) + 1)) := h
          rw [h2, h3]
          simp [intOf]
          omega
      | false =>
        have PB : Hid (∀ X, Calls Tryd.prog 87 #[.int .u8 b.toNat] X fun e w' => e = .returned (.bool false) ∧ w' = X) := fun X => by have := PA.out b.toNat X; rwa [hpb] at this
        have HPB := Lib.hid hpb; clear hpb
        go_wp2_with fail
        go_quiet ((go_at_call 87; exact Calls.quiet_of_same (PB.out _)))
        go_wp2_with fail
        have hPZ : Prs pb s k (wr.drewN nq) := HP.out
        have hMZ : Moves pb w (wr.drewN nq) := HM.out.trans (Moves.of_below ((Lay.refl _ _).drewN _).below)
        obtain ⟨z0, z1, z2⟩ := hPZ.cells
        have HPZ := Lib.hid hPZ; clear hPZ
        have HMZ := Lib.hid hMZ; clear hMZ
        generalize wr.drewN nq = Z at *
        go_quiet ((go_at_call 75; exact Calls.quiet_of_same (HN.out _)))
        go_wp2_with fail
        go_ret2
        obtain ⟨f1, f2, f3⟩ := HF.out k hik hks HA.out (fun h => by unfold partB; have := HB.out; rw [← this]; exact HPB.out)
        exact ⟨s.extract i k, rfl, f1, f3, HMZ.out.trans (Moves.of_below ((Lay.refl _ _).drewN _).below), by rw [f2]; exact HPZ.out, by rw [f2]; exact hks⟩
    · have hd : decide ((k : Int) < (s.size : Int)) = false := decide_eq_false (by omega)
      go_wp2_with fail
      go_quiet (fail)
      go_wp2_with fail
      have hPZ : Prs pb s k (wr.drewN nq) := HP.out
      have hMZ : Moves pb w (wr.drewN nq) := HM.out.trans (Moves.of_below ((Lay.refl _ _).drewN _).below)
      obtain ⟨z0, z1, z2⟩ := hPZ.cells
      have HPZ := Lib.hid hPZ; clear hPZ
      have HMZ := Lib.hid hMZ; clear hMZ
      generalize wr.drewN nq = Z at *
      go_quiet ((go_at_call 75; exact Calls.quiet_of_same (HN.out _)))
      go_wp2_with fail
      go_ret2
      obtain ⟨f1, f2, f3⟩ := HF.out k hik hks HA.out (fun h => absurd h hlt)
      exact ⟨s.extract i k, rfl, f1, f3, HMZ.out.trans (Moves.of_below ((Lay.refl _ _).drewN _).below), by rw [f2]; exact HPZ.out, by rw [f2]; exact hks⟩
end Go.Proofs.YtbgkabgbgbebaaaDoor
