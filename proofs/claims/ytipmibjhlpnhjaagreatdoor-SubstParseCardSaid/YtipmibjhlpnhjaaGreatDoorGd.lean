/- The base texts Take, Sorts, Pterm, Term, Tatom, Tapp, Psize, Parse in one. -/
import Derived.Test.YtipmibjhlpnhjaaGreatDoorGb
import Derived.Test.YtipmibjhlpnhjaaGreatDoorGc
import Derived.Test.YtipmibjhlpnhjaaGreatDoorShl
import Derived.Lib.SlicesS
import Derived.Test.YtipmibjhlpnhjaaGreatDoorGa
namespace Go.Proofs.YtipmibjhlpnhjaaGreatDoor
open Go.RowKit Go.Sort

/-- the parser's cells -/
def Prs (pb : Nat) (s : ByteArray) (at' : Nat) (w : World) : Prop := w.heap[pb]? = some (.cells #[.string s, .int .i64 at'] 142 (0, 0))
/-- what reading turns: the parser's block, and new blocks -/
structure Moves (pb : Nat) (w w' : World) : Prop where
  size : w.heap.size ≤ w'.heap.size
  same : ∀ b, b < w.heap.size → b ≠ pb → w'.heap[b]? = w.heap[b]?
  os : w'.os = w.os
  tape : w'.tape = w.tape
  output : w'.output = w.output
theorem Moves.refl (pb : Nat) (w : World) : Moves pb w w := ⟨Nat.le_refl _, fun _ _ _ => rfl, rfl, rfl, rfl⟩
theorem Moves.trans {pb : Nat} {a b c : World} (h : Moves pb a b) (k : Moves pb b c) : Moves pb a c :=
  ⟨Nat.le_trans h.size k.size, fun x hx h1 => (k.same x (Nat.lt_of_lt_of_le hx h.size) h1).trans (h.same x hx h1), k.os.trans h.os, k.tape.trans h.tape, k.output.trans h.output⟩
theorem Moves.of_below {pb : Nat} {w w' : World} (h : Below w.heap.size w w') : Moves pb w w' := ⟨h.size, fun b hb _ => h.block b hb, h.os, h.tape, h.output⟩
theorem Moves.set {pb o : Nat} (w : World) (v : Value) : Moves pb w (w.setCell ⟨pb, o, none⟩ v) :=
  ⟨by simp [World.setCell], fun b _ hne => Below.heap_setCell _ _ _ _ (by exact hne), rfl, rfl, rfl⟩
theorem Prs.set {pb at' n : Nat} {s : ByteArray} {w : World} (h : Prs pb s at' w) : Prs pb s n (w.setCell ⟨pb, 1, none⟩ (.int .i64 n)) := by
  unfold Prs at h ⊢
  simp [World.setCell, Array.getElem?_modify, h]
theorem Prs.cells {pb at' : Nat} {s : ByteArray} {w : World} (h : Prs pb s at' w) : w.cell? ⟨pb, 0, none⟩ = some (.string s) ∧ w.cell? ⟨pb, 1, none⟩ = some (.int .i64 at') ∧ w.frozen? ⟨pb, 1, none⟩ = false := by
  unfold Prs at h
  simp [World.cell?, World.frozen?, h]

theorem extract_list (s : ByteArray) (i j : Nat) : (s.extract i j).data.toList = (s.data.toList.drop i).take (j - i) := by
  rw [ByteArray.data_extract, Array.toList_extract]
theorem extract_rest (s : ByteArray) (i : Nat) : (s.extract i s.size).data.toList = s.data.toList.drop i := by
  rw [extract_list, List.take_of_length_le]
  rw [List.length_drop, size_list]; exact Nat.le_refl _

theorem take_any (pb : Nat) (s x : ByteArray) (i : Nat) (w : World) (hp : Prs pb s i w) (hi : i ≤ s.size) (hs : s.size ≤ 1000000000) (hx : x.size ≤ 1000000000) :
    Calls Tryz.prog 154 #[.pointer (some ⟨pb, 0, none⟩), .string x] w fun e w' => e = .returned (.bool (Lib.hasPrefix (s.data.toList.drop i) x.data.toList)) ∧ Moves pb w w' ∧ Prs pb s (if Lib.hasPrefix (s.data.toList.drop i) x.data.toList then i + x.size else i) w' := by
  obtain ⟨c0, c1, c2⟩ := hp.cells
  have hlt : pb < w.heap.size := (Array.getElem?_eq_some_iff.1 hp).1
  have HP := Lib.hid (fun X => Tryz.strings_HasPrefix (s.extract i s.size) x X)
  rw [extract_rest] at HP
  have HPR := Lib.hid hp; clear hp
  have i1 : (0 : Int) ≤ (i : Int) := Int.natCast_nonneg _
  have i2 : (i : Int) ≤ (s.size : Int) := by omega
  cases hc : Lib.hasPrefix (s.data.toList.drop i) x.data.toList with
  | true =>
    rw [hc] at HP
    clear hc
    go_enter Tryz.func154, Tryz.ntmps154
    go_wp2_with fail
    go_quiet ((go_at_call 117; exact Calls.quiet_of_same (HP.out _)))
    go_wp2_with fail
    go_ret
    have hq : Moves pb w (w.drewN nq) := Moves.of_below ((Lay.refl _ _).drewN nq).below
    refine ⟨rfl, hq.trans (Moves.set _ _), ?_⟩
    have h := Prs.set (n := i + x.size) (show Prs pb s i (w.drewN nq) from HPR.out)
    rw [Int.natCast_add] at h
    exact h
  | false =>
    rw [hc] at HP
    clear hc
    go_enter Tryz.func154, Tryz.ntmps154
    go_wp2_with fail
    go_quiet ((go_at_call 117; exact Calls.quiet_of_same (HP.out _)))
    go_wp2_with fail
    go_ret
    have hq : Moves pb w (w.drewN nq) := Moves.of_below ((Lay.refl _ _).drewN nq).below
    exact ⟨rfl, hq, HPR.out⟩

theorem takeWhile_eq : ∀ (l : List UInt8) (m : Nat), m ≤ l.length → (∀ j, (h : j < l.length) → j < m → partB l[j] = true) → (∀ h : m < l.length, partB l[m] = false) → l.takeWhile partB = l.take m ∧ l.dropWhile partB = l.drop m
  | [], m, _, _, _ => by simp
  | b :: l, 0, _, _, h => by
    have := h (by simp)
    simp only [List.getElem_cons_zero] at this
    simp [this]
  | b :: l, m + 1, hm, h1, h2 => by
    have hb := h1 0 (by simp) (by omega)
    simp only [List.getElem_cons_zero] at hb
    have ih := takeWhile_eq l m (by simpa using hm) (fun j hj hjm => by have := h1 (j + 1) (by simpa using hj) (by omega); simpa using this) (fun h => by have := h2 (by simpa using h); simpa using this)
    rw [List.takeWhile_cons_of_pos hb, List.dropWhile_cons_of_pos hb, ih.1, ih.2]
    simp

/-- the length of the longest prefix that could be part of a name -/
def wlen (l : List UInt8) : Nat := (l.takeWhile partB).length

set_option maxHeartbeats 2000000 in
theorem name_any (pb : Nat) (s : ByteArray) (i : Nat) (w : World) (hp : Prs pb s i w) (hi : i ≤ s.size) (hs : s.size ≤ 1000000000) :
    Calls Tryz.prog 155 #[.pointer (some ⟨pb, 0, none⟩)] w fun e w' => ∃ x : ByteArray, e = .returned (.tuple #[.string x, .bool (nameL x.data.toList)]) ∧ x.data.toList = (s.data.toList.drop i).takeWhile partB ∧ x.size ≤ s.size ∧
      Moves pb w w' ∧ Prs pb s (i + wlen (s.data.toList.drop i)) w' ∧ i + wlen (s.data.toList.drop i) ≤ s.size := by
  have mixed : Tryz.prog.follows .mixedOrders = true := by kernel_rfl
  obtain ⟨c0, c1, c2⟩ := hp.cells
  have HPR := Lib.hid hp; clear hp
  have PA := Lib.hid part_any
  have hsl := size_list s
  have HAT : Hid (∀ k, (h : k < s.size) → s[k] = s.data.toList[k]'(by rw [← size_list]; exact h)) := fun k h => rfl
  have hfin : ∀ k, i ≤ k → k ≤ s.size → (∀ j, (h : j < s.data.toList.length) → i ≤ j → j < k → partB s.data.toList[j] = true) → (∀ h : k < s.size, partB (s.data.toList[k]'(by rw [← size_list]; exact h)) = false) →
      (s.extract i k).data.toList = (s.data.toList.drop i).takeWhile partB ∧ i + wlen (s.data.toList.drop i) = k ∧ (s.extract i k).size ≤ s.size := fun k hik hks h1 h2 => by
    obtain ⟨e1, _⟩ := takeWhile_eq (s.data.toList.drop i) (k - i) (by rw [List.length_drop, ← hsl]; omega)
      (fun j hj hjk => by rw [List.getElem_drop]; exact h1 _ _ (by omega) (by omega)) (fun h => by
        rw [List.getElem_drop]
        have hk : k < s.size := by rw [List.length_drop, ← hsl] at h; omega
        have := h2 hk
        rw [← this]; congr 2; omega)
    refine ⟨by rw [extract_list, e1], ?_, by rw [ByteArray.size_extract]; omega⟩
    unfold wlen; rw [e1, List.length_take, List.length_drop, ← hsl]; omega
  have HF := Lib.hid hfin; clear hfin
  have HSL := Lib.hid hsl; clear hsl
  go_enter Tryz.func155, Tryz.ntmps155
  go_wp2_with fail
  go_loopw [30] (fun _ wr => ∃ k : Nat, i ≤ k ∧ k ≤ s.size ∧ Hid (Prs pb s k wr) ∧ Hid (Moves pb w wr) ∧ Hid (∀ j, (h : j < s.data.toList.length) → i ≤ j → j < k → partB s.data.toList[j] = true))
    (fun _ wr => s.size - (intOf ((wr.cell? ⟨pb, 1, none⟩).getD undef)).toNat)
  case atStart => exact ⟨i, Nat.le_refl _, hi, HPR.out, Moves.refl _ _, fun j _ h1 h2 => by omega⟩
  case round =>
    obtain ⟨k, hik, hks, HP, HM, HA⟩ := hrel
    obtain ⟨d0, d1, d2⟩ := HP.out.cells
    have i1 : (0 : Int) ≤ (k : Int) := Int.natCast_nonneg _
    have i3 : (i : Int) ≤ (k : Int) := by omega
    have i4 : (k : Int) ≤ (s.size : Int) := by omega
    have hxs : (s.extract i k).size ≤ maxLen := by rw [ByteArray.size_extract]; unfold maxLen; omega
    have HN := Lib.hid (fun X => isName_any (s.extract i k) X hxs)
    clear hxs
    by_cases hlt : k < s.size
    · have hd : decide ((k : Int) < (s.size : Int)) = true := decide_eq_true (by omega)
      have hat := HAT.out k hlt
      obtain ⟨b, hb⟩ : ∃ b, b = s.data.toList[k]'(by rw [← HSL.out]; exact hlt) := ⟨_, rfl⟩
      rw [← hb] at hat
      have HB := Lib.hid hb; clear hb
      cases hpb : partI (b.toNat : Int) with
      | true =>
        have PB : Hid (∀ X, Calls Tryz.prog 166 #[.int .u8 b.toNat] X fun e w' => e = .returned (.bool true) ∧ w' = X) := fun X => by have := PA.out b.toNat X; rwa [hpb] at this
        have HPB := Lib.hid hpb; clear hpb
        go_wp2_with fail
        go_quiet ((go_at_call 166; exact Calls.quiet_of_same (PB.out _)))
        go_wp2_with fail
        go_roundw
        case rel =>
          have h := Prs.set (n := k + 1) (show Prs pb s k (wr.drewN nq) from HP.out)
          rw [Int.natCast_add] at h
          refine ⟨k + 1, by omega, by omega, h, HM.out.trans ((Moves.of_below ((Lay.refl _ _).drewN nq).below).trans (Moves.set _ _)), fun j hj h1 h2 => ?_⟩
          by_cases e : j = k
          · subst e; unfold partB; rw [← HB.out]; exact HPB.out
          · exact HA.out j hj h1 (by omega)
        case measure =>
          have h := (Prs.set (n := k + 1) (show Prs pb s k (wr.drewN nq) from HP.out)).cells.2.1
          rw [Int.natCast_add] at h
          have h2 := HP.out.cells.2.1
          have h3 : ((wr.drewN nq).setCell ⟨pb, 1, none⟩ (.int .i64 ((k : Int) + 1))).cell? ⟨pb, 1, none⟩ = some (.int .i64 ((k : Int) + 1)) := h
          rw [h2, h3]
          simp [intOf]
          omega
      | false =>
        have PB : Hid (∀ X, Calls Tryz.prog 166 #[.int .u8 b.toNat] X fun e w' => e = .returned (.bool false) ∧ w' = X) := fun X => by have := PA.out b.toNat X; rwa [hpb] at this
        have HPB := Lib.hid hpb; clear hpb
        go_wp2_with fail
        go_quiet ((go_at_call 166; exact Calls.quiet_of_same (PB.out _)))
        go_wp2_with fail
        have hPZ : Prs pb s k (wr.drewN nq) := HP.out
        have hMZ : Moves pb w (wr.drewN nq) := HM.out.trans (Moves.of_below ((Lay.refl _ _).drewN _).below)
        obtain ⟨z0, z1, z2⟩ := hPZ.cells
        have HPZ := Lib.hid hPZ; clear hPZ
        have HMZ := Lib.hid hMZ; clear hMZ
        generalize wr.drewN nq = Z at *
        go_quiet ((go_at_call 133; exact Calls.quiet_of_same (HN.out _)))
        go_wp2_with fail
        go_ret2
        obtain ⟨f1, f2, f3⟩ := HF.out k hik hks HA.out (fun h => by unfold partB; have := HB.out; rw [← this]; exact HPB.out)
        exact ⟨s.extract i k, rfl, f1, f3, HMZ.out.trans (Moves.of_below ((Lay.refl _ _).drewN _).below), by rw [f2]; exact HPZ.out, by rw [f2]; exact hks⟩
    · have hd : decide ((k : Int) < (s.size : Int)) = false := decide_eq_false (by omega)
      go_wp2_with fail
      go_quiet (fail)
      go_wp2_with fail
      have hPZ : Prs pb s k (wr.drewN nq) := HP.out
      have hMZ : Moves pb w (wr.drewN nq) := HM.out.trans (Moves.of_below ((Lay.refl _ _).drewN _).below)
      obtain ⟨z0, z1, z2⟩ := hPZ.cells
      have HPZ := Lib.hid hPZ; clear hPZ
      have HMZ := Lib.hid hMZ; clear hMZ
      generalize wr.drewN nq = Z at *
      go_quiet ((go_at_call 133; exact Calls.quiet_of_same (HN.out _)))
      go_wp2_with fail
      go_ret2
      obtain ⟨f1, f2, f3⟩ := HF.out k hik hks HA.out (fun h => absurd h hlt)
      exact ⟨s.extract i k, rfl, f1, f3, HMZ.out.trans (Moves.of_below ((Lay.refl _ _).drewN _).below), by rw [f2]; exact HPZ.out, by rw [f2]; exact hks⟩
end Go.Proofs.YtipmibjhlpnhjaaGreatDoor
namespace Go.Proofs.YtipmibjhlpnhjaaGreatDoor
open Go.RowKit Go.Sort

/-- the words of the sorts, in order -/
def wordList : List ByteArray := [⟨#[97, 110, 121]⟩, ⟨#[97, 103, 101, 110, 116]⟩, ⟨#[110, 111, 110, 99, 101]⟩, ⟨#[107, 101, 121]⟩, ⟨#[100, 97, 116, 97]⟩, ⟨#[116, 97, 103]⟩]
/-- the package's variable with the words, in blocks below B -/
def Words (B : Nat) (w : World) : Prop := ∃ wb wo c, 0 < B ∧ wb < B ∧ w.cell? ⟨0, 0, none⟩ = some (.slice (some ⟨wb, wo, none⟩) 6 c) ∧ ∀ j, j < 6 → w.cell? ⟨wb, wo + j, none⟩ = some (.string (wordList.getD j ByteArray.empty))
theorem Words.keep {B : Nat} {w w' : World} (h : Words B w) (hb : ∀ b, b < B → w'.heap[b]? = w.heap[b]?) : Words B w' := by
  obtain ⟨wb, wo, c, h0, h1, h2, h3⟩ := h
  exact ⟨wb, wo, c, h0, h1, by rw [World.cell?_of_block (hb _ h0)]; exact h2, fun j hj => by rw [World.cell?_of_block (hb _ h1)]; exact h3 j hj⟩
theorem Words.up {B B' : Nat} {w : World} (h : Words B w) (hb : B ≤ B') : Words B' w := by
  obtain ⟨wb, wo, c, h0, h1, h⟩ := h
  exact ⟨wb, wo, c, by omega, by omega, h⟩
/-- the number of a sort's word, or -1 -/
def sortOf (l : List UInt8) : Int := Lib.idxOfS wordList ⟨l.toArray⟩

/-- what sort reads: the number, whether it will do, and how many bytes -/
def sorts (least : Int) : List UInt8 → Int × Bool × Nat
  | 58 :: r => (sortOf (r.takeWhile partB), decide (least ≤ sortOf (r.takeWhile partB)), 1 + wlen r)
  | _ => (0, false, 0)
theorem sorts_colon (least : Int) (r : List UInt8) : sorts least (58 :: r) = (sortOf (r.takeWhile partB), decide (least ≤ sortOf (r.takeWhile partB)), 1 + wlen r) := rfl
theorem sorts_no (least : Int) (l : List UInt8) (h : Lib.hasPrefix l [58] = false) : sorts least l = (0, false, 0) := by
  unfold sorts
  split
  · simp [Lib.hasPrefix] at h
  · rfl
theorem prefix_colon {l : List UInt8} (h : Lib.hasPrefix l [58] = true) : ∃ r, l = 58 :: r := by
  match l, h with
  | [], h => simp [Lib.hasPrefix] at h
  | b :: r, h => simp [Lib.hasPrefix] at h; exact ⟨r, by rw [h]⟩


theorem word_end (s : ByteArray) (i k : Nat) (hik : i ≤ k) (hks : k ≤ s.size) (h1 : ∀ j, (h : j < s.data.toList.length) → i ≤ j → j < k → partB s.data.toList[j] = true)
    (h2 : ∀ h : k < s.size, partB (s.data.toList[k]'(by rw [← size_list]; exact h)) = false) :
    (s.extract i k).data.toList = (s.data.toList.drop i).takeWhile partB ∧ i + wlen (s.data.toList.drop i) = k := by
  have hsl := size_list s
  obtain ⟨e1, _⟩ := takeWhile_eq (s.data.toList.drop i) (k - i) (by rw [List.length_drop, ← hsl]; omega)
    (fun j hj hjk => by rw [List.getElem_drop]; exact h1 _ _ (by omega) (by omega)) (fun h => by
      rw [List.getElem_drop]
      have hk : k < s.size := by rw [List.length_drop, ← hsl] at h; omega
      have := h2 hk
      rw [← this]; congr 2; omega)
  refine ⟨by rw [extract_list, e1], ?_⟩
  unfold wlen; rw [e1, List.length_take, List.length_drop, ← hsl]; omega
theorem bytes_of_list (x : ByteArray) : x = ⟨x.data.toList.toArray⟩ := by cases x; simp

set_option maxHeartbeats 2000000 in
theorem sort_of_any (B pb : Nat) (hB : B ≤ pb) (s : ByteArray) (i : Nat) (least : Int) (w : World) (hp : Prs pb s i w) (hw : Words B w) (hi : i ≤ s.size) (hs : s.size ≤ 1000000000) :
    Calls Tryz.prog 156 #[.pointer (some ⟨pb, 0, none⟩), .int .i64 least] w fun e w' => e = .returned (.tuple #[.int .i64 (sorts least (s.data.toList.drop i)).1, .bool (sorts least (s.data.toList.drop i)).2.1]) ∧
      Moves pb w w' ∧ Prs pb s (i + (sorts least (s.data.toList.drop i)).2.2) w' ∧ i + (sorts least (s.data.toList.drop i)).2.2 ≤ s.size := by
  have mixed : Tryz.prog.follows .mixedOrders = true := by kernel_rfl
  have htk := take_any pb s ⟨#[58]⟩ i w hp hi hs (by decide)
  have hlt : pb < w.heap.size := (Array.getElem?_eq_some_iff.1 hp).1
  have hsl := size_list s
  cases hpre : Lib.hasPrefix (s.data.toList.drop i) [58] with
  | false =>
    have HS := Lib.hid (sorts_no least _ hpre)
    rw [show (⟨#[58]⟩ : ByteArray).data.toList = [58] from rfl, hpre] at htk
    have HT := Lib.hid htk; clear htk hp hpre hw
    go_enter Tryz.func156, Tryz.ntmps156
    go_wp2_with fail
    refine HT.out.mono ?_
    rintro e w1 ⟨rfl, hm, hp1⟩
    have HM := Lib.hid hm; clear hm
    have HP1 := Lib.hid hp1; clear hp1
    go_wp2_with fail
    go_ret2
    rw [HS.out]
    exact ⟨rfl, HM.out, HP1.out, hi⟩
  | true =>
    obtain ⟨r, hr⟩ := prefix_colon hpre
    have HS := Lib.hid (show sorts least (s.data.toList.drop i) = (sortOf (r.takeWhile partB), decide (least ≤ sortOf (r.takeWhile partB)), 1 + wlen r) from by rw [hr]; exact sorts_colon least r)
    rw [show (⟨#[58]⟩ : ByteArray).data.toList = [58] from rfl, hpre] at htk
    have hil : i < s.size := by
      have := congrArg List.length hr
      rw [List.length_drop, List.length_cons, ← hsl] at this; omega
    have hr1 : s.data.toList.drop (i + 1) = r := by rw [← List.drop_drop, hr]; rfl
    have HR1 := Lib.hid hr1; clear hr1 hr hpre
    have HT := Lib.hid htk; clear htk hp
    have HW := Lib.hid hw; clear hw
    have PA := Lib.hid part_any
    have HAT : Hid (∀ k, (h : k < s.size) → s[k] = s.data.toList[k]'(by rw [← size_list]; exact h)) := fun k h => rfl
    have HSL := Lib.hid hsl; clear hsl
    go_enter Tryz.func156, Tryz.ntmps156
    go_wp2_with fail
    refine HT.out.mono ?_
    rintro e w1 ⟨rfl, hm, hp1⟩
    have hp1' : Prs pb s (i + 1) w1 := hp1
    have hw1 : Words B w1 := HW.out.keep (fun b hb => hm.same b (by omega) (by omega))
    obtain ⟨c0, c1, c2⟩ := hp1'.cells
    have HM := Lib.hid hm; clear hm
    have HP1 := Lib.hid hp1'; clear hp1 hp1'
    have HW1 := Lib.hid hw1; clear hw1
    go_wp2_with fail
    go_loopw [20] (fun _ wr => ∃ k : Nat, i + 1 ≤ k ∧ k ≤ s.size ∧ Hid (Prs pb s k wr) ∧ Hid (Moves pb w1 wr) ∧ Hid (∀ j, (h : j < s.data.toList.length) → i + 1 ≤ j → j < k → partB s.data.toList[j] = true))
      (fun _ wr => s.size - (intOf ((wr.cell? ⟨pb, 1, none⟩).getD undef)).toNat)
    case atStart => exact ⟨i + 1, Nat.le_refl _, hil, HP1.out, Moves.refl _ _, fun j _ h1 h2 => by omega⟩
    case round =>
      obtain ⟨k, hik, hks, HP, HMV, HA⟩ := hrel
      obtain ⟨d0, d1, d2⟩ := HP.out.cells
      have i1 : (0 : Int) ≤ (k : Int) := Int.natCast_nonneg _
      have i3 : (i : Int) + 1 ≤ (k : Int) := by omega
      have i4 : (k : Int) ≤ (s.size : Int) := by omega
      have i5 : ((i : Int) + 1).toNat = i + 1 := by omega
      have HWR : Hid (Words B wr) := HW1.out.keep (fun b hb => HMV.out.same b (by have := (Array.getElem?_eq_some_iff.1 HP1.out).1; omega) (by omega))
      by_cases hk : k < s.size
      · have hd : decide ((k : Int) < (s.size : Int)) = true := decide_eq_true (by omega)
        have hat := HAT.out k hk
        obtain ⟨b, hb⟩ : ∃ b, b = s.data.toList[k]'(by rw [← HSL.out]; exact hk) := ⟨_, rfl⟩
        rw [← hb] at hat
        have HB := Lib.hid hb; clear hb
        cases hpb : partI (b.toNat : Int) with
        | true =>
          have PB : Hid (∀ X, Calls Tryz.prog 166 #[.int .u8 b.toNat] X fun e w' => e = .returned (.bool true) ∧ w' = X) := fun X => by have := PA.out b.toNat X; rwa [hpb] at this
          have HPB := Lib.hid hpb; clear hpb
          go_wp2_with fail
          go_quiet ((go_at_call 166; exact Calls.quiet_of_same (PB.out _)))
          go_wp2_with fail
          go_roundw
          case rel =>
            have h := Prs.set (n := k + 1) (show Prs pb s k (wr.drewN nq) from HP.out)
            rw [Int.natCast_add] at h
            refine ⟨k + 1, by omega, by omega, h, HMV.out.trans ((Moves.of_below ((Lay.refl _ _).drewN nq).below).trans (Moves.set _ _)), fun j hj h1 h2 => ?_⟩
            by_cases e : j = k
            · subst e; unfold partB; rw [← HB.out]; exact HPB.out
            · exact HA.out j hj h1 (by omega)
          case measure =>
            have h := (Prs.set (n := k + 1) (show Prs pb s k (wr.drewN nq) from HP.out)).cells.2.1
            rw [Int.natCast_add] at h
            have h2 := HP.out.cells.2.1
            have h3 : ((wr.drewN nq).setCell ⟨pb, 1, none⟩ (.int .i64 ((k : Int) + 1))).cell? ⟨pb, 1, none⟩ = some (.int .i64 ((k : Int) + 1)) := h
            rw [h2, h3]
            simp [intOf]
            omega
        | false =>
          have PB : Hid (∀ X, Calls Tryz.prog 166 #[.int .u8 b.toNat] X fun e w' => e = .returned (.bool false) ∧ w' = X) := fun X => by have := PA.out b.toNat X; rwa [hpb] at this
          have HPB := Lib.hid hpb; clear hpb
          have HE := Lib.hid (word_end s (i + 1) k hik hks HA.out (fun h => by unfold partB; have := HB.out; rw [← this]; exact HPB.out))
          go_wp2_with fail
          go_quiet ((go_at_call 166; exact Calls.quiet_of_same (PB.out _)))
          go_wp2_with fail
          have hPZ : Prs pb s k (wr.drewN nq) := HP.out
          have hMZ : Moves pb w (wr.drewN nq) := HM.out.trans (HMV.out.trans (Moves.of_below ((Lay.refl _ _).drewN _).below))
          have hWZ : Words B (wr.drewN nq) := HWR.out.keep (fun _ _ => rfl)
          obtain ⟨z0, z1, z2⟩ := hPZ.cells
          obtain ⟨wb, wo, wc, _, _, y0, y1⟩ := hWZ
          have HPZ := Lib.hid hPZ; clear hPZ
          have HMZ := Lib.hid hMZ; clear hMZ
          generalize wr.drewN nq = Z at *
          have hX := fun X (hX : ∀ j, j < 6 → X.cell? ⟨wb, wo + j, none⟩ = some (.string (wordList.getD j ByteArray.empty))) => Tryz.slices_Index_string wb wo 6 wc wordList (s.extract (i + 1) k) X (by decide) (by decide) hX
          have hid : Lib.idxOfS (wordList.take 6) (s.extract (i + 1) k) = sortOf (r.takeWhile partB) := by
            have e := HE.out.1
            rw [HR1.out] at e
            rw [bytes_of_list (s.extract (i + 1) k), e]
            exact rfl
          rw [hid] at hX
          have HX := Lib.hid hX; clear hX hid
          have HY := Lib.hid y1; clear y1
          have HK : Hid (i + (1 + wlen r) = k) := by have h := HE.out.2; rw [HR1.out] at h; show i + (1 + wlen r) = k; omega
          generalize sortOf (r.takeWhile partB) = q at *
          go_quiet ((go_at_call 189; exact Calls.quiet_of_same (HX.out _ HY.out)))
          go_wp2_with fail
          go_ret2
          rw [HS.out]
          exact ⟨rfl, HMZ.out.trans (Moves.of_below ((Lay.refl _ _).drewN _).below), by show Prs pb s (i + (1 + wlen r)) _; rw [HK.out]; exact HPZ.out, by show i + (1 + wlen r) ≤ _; rw [HK.out]; exact hks⟩
      · have hd : decide ((k : Int) < (s.size : Int)) = false := decide_eq_false (by omega)
        have HE := Lib.hid (word_end s (i + 1) k hik hks HA.out (fun h => absurd h hk))
        go_wp2_with fail
        go_quiet (fail)
        go_wp2_with fail
        have hPZ : Prs pb s k (wr.drewN nq) := HP.out
        have hMZ : Moves pb w (wr.drewN nq) := HM.out.trans (HMV.out.trans (Moves.of_below ((Lay.refl _ _).drewN _).below))
        have hWZ : Words B (wr.drewN nq) := HWR.out.keep (fun _ _ => rfl)
        obtain ⟨z0, z1, z2⟩ := hPZ.cells
        obtain ⟨wb, wo, wc, _, _, y0, y1⟩ := hWZ
        have HPZ := Lib.hid hPZ; clear hPZ
        have HMZ := Lib.hid hMZ; clear hMZ
        generalize wr.drewN nq = Z at *
        have hX := fun X (hX : ∀ j, j < 6 → X.cell? ⟨wb, wo + j, none⟩ = some (.string (wordList.getD j ByteArray.empty))) => Tryz.slices_Index_string wb wo 6 wc wordList (s.extract (i + 1) k) X (by decide) (by decide) hX
        have hid : Lib.idxOfS (wordList.take 6) (s.extract (i + 1) k) = sortOf (r.takeWhile partB) := by
          have e := HE.out.1
          rw [HR1.out] at e
          rw [bytes_of_list (s.extract (i + 1) k), e]
          exact rfl
        rw [hid] at hX
        have HX := Lib.hid hX; clear hX hid
        have HY := Lib.hid y1; clear y1
        have HK : Hid (i + (1 + wlen r) = k) := by have h := HE.out.2; rw [HR1.out] at h; show i + (1 + wlen r) = k; omega
        generalize sortOf (r.takeWhile partB) = q at *
        go_quiet ((go_at_call 189; exact Calls.quiet_of_same (HX.out _ HY.out)))
        go_wp2_with fail
        go_ret2
        rw [HS.out]
        exact ⟨rfl, HMZ.out.trans (Moves.of_below ((Lay.refl _ _).drewN _).below), by show Prs pb s (i + (1 + wlen r)) _; rw [HK.out]; exact HPZ.out, by show i + (1 + wlen r) ≤ _; rw [HK.out]; exact hks⟩
end Go.Proofs.YtipmibjhlpnhjaaGreatDoor
namespace Go.Proofs.YtipmibjhlpnhjaaGreatDoor
mutual
/-- a term at the head of a text, and the rest; the fuel is twice the text's length, and one -/
def pterm : Nat → List UInt8 → Option (Tm × List UInt8)
  | 0, _ => none
  | n + 1, l =>
    if nameL ((if Lib.hasPrefix l [63] then l.drop 1 else l).takeWhile partB) = false then none
    else if Lib.hasPrefix l [63] = true then pvar ⟨((l.drop 1).takeWhile partB).toArray⟩ ((l.drop 1).drop (wlen (l.drop 1)))
    else if Lib.hasPrefix (l.drop (wlen l)) [40] = false then patom ⟨(l.takeWhile partB).toArray⟩ (l.drop (wlen l))
    else pkids n ⟨(l.takeWhile partB).toArray⟩ [] ((l.drop (wlen l)).drop 1)
def pvar (w : ByteArray) (l : List UInt8) : Option (Tm × List UInt8) :=
  if Lib.hasPrefix l [58] = true then (if (sorts 1 l).2.1 = true then some (.mk 1 w (sorts 1 l).1 [], l.drop (sorts 1 l).2.2) else none) else some (.mk 1 w 0 [], l)
def patom (w : ByteArray) (l : List UInt8) : Option (Tm × List UInt8) :=
  if (sorts 0 l).2.1 = true then some (.mk 2 w (sorts 0 l).1 [], l.drop (sorts 0 l).2.2) else none
/-- the kids that are still to come -/
def pkids : Nat → ByteArray → List Tm → List UInt8 → Option (Tm × List UInt8)
  | 0, _, _, _ => none
  | n + 1, w, acc, l =>
    if Lib.hasPrefix l [41] = true then some (.mk 3 w 0 acc, l.drop 1)
    else if acc ≠ [] ∧ Lib.hasPrefix l [44, 32] = false then none
    else match pterm n (if acc ≠ [] then l.drop 2 else l) with
      | none => none
      | some (k, r) => pkids n w (acc ++ [k]) r
end
def parse (l : List UInt8) : Option Tm :=
  match pterm (2 * l.length + 1) l with
  | some (t, []) => some t
  | _ => none
example : (pterm 35 [112, 97, 105, 114, 40, 63, 120, 44, 32, 97, 58, 110, 111, 110, 99, 101, 41]).isSome = true := by decide
end Go.Proofs.YtipmibjhlpnhjaaGreatDoor
namespace Go.Proofs.YtipmibjhlpnhjaaGreatDoor
open Go.RowKit Go.Sort

/-- the parser's answer: a term in new memory and how far it was read, or false -/
def Termed (pb : Nat) (s : ByteArray) (i n : Nat) (w : World) (e : Ending) (w' : World) : Prop :=
  Moves pb w w' ∧ match pterm n (s.data.toList.drop i) with
    | none => ∃ k nm so A l c, e = .returned (.tuple #[.agg #[.int .i64 k, .string nm, .int .i64 so, .slice A l c], .bool false])
    | some (t, r) => ∃ A cap j, e = .returned (.tuple #[t.val A cap, .bool true]) ∧ RepP w' (fun b => w.heap.size ≤ b ∧ b < w'.heap.size) t A cap ∧ s.data.toList.drop j = r ∧ j ≤ s.size ∧ i < j ∧ Prs pb s j w'

theorem Prs.keep {pb i : Nat} {s : ByteArray} {w w' : World} (h : Prs pb s i w) (hb : w'.heap[pb]? = w.heap[pb]?) : Prs pb s i w' := by unfold Prs at h ⊢; rw [hb]; exact h

theorem Moves.setNew {pb : Nat} {w w' : World} (h : Moves pb w w') {p : Addr} (hp : w.heap.size ≤ p.block) (v : Value) : Moves pb w (w'.setCell p v) :=
  ⟨by simpa [World.setCell] using h.size, fun b hb hne => (Below.heap_setCell _ _ _ _ (by omega)).trans (h.same b hb hne), h.os, h.tape, h.output⟩

set_option maxHeartbeats 4000000 in
set_option maxRecDepth 100000 in
theorem term_bad (pb : Nat) (s : ByteArray) (i n : Nat) (w : World) (hp : Prs pb s i w) (hi : i ≤ s.size) (hs : s.size ≤ 1000000)
    (hbad : nameL ((if Lib.hasPrefix (s.data.toList.drop i) [63] then (s.data.toList.drop i).drop 1 else s.data.toList.drop i).takeWhile partB) = false) :
    Calls Tryz.prog 121 #[.pointer (some ⟨pb, 0, none⟩)] w (Termed pb s i (n + 1) w) := by
  have hlt : pb < w.heap.size := (Array.getElem?_eq_some_iff.1 hp).1
  have hnone : pterm (n + 1) (s.data.toList.drop i) = none := by rw [pterm, if_pos hbad]
  have hW : Below w.heap.size w (w.alloc (.cells #[.int .i64 0, .string ⟨#[]⟩, .int .i64 0, .slice none 0 0] 24)) := below1 (Nat.le_refl _) _
  have htk := take_any pb s ⟨#[63]⟩ i _ (hp.keep (hW.block pb hlt)) hi (by omega) (by decide)
  have hsl := size_list s
  rw [show (⟨#[63]⟩ : ByteArray).data.toList = [63] from rfl] at htk
  obtain ⟨i1, hi1, hd1, hpre⟩ : ∃ i1, (if Lib.hasPrefix (s.data.toList.drop i) [63] = true then i + (⟨#[63]⟩ : ByteArray).size else i) = i1 ∧ s.data.toList.drop i1 = (if Lib.hasPrefix (s.data.toList.drop i) [63] then (s.data.toList.drop i).drop 1 else s.data.toList.drop i) ∧ i1 ≤ s.size := by
    cases hc : Lib.hasPrefix (s.data.toList.drop i) [63] with
    | true =>
      refine ⟨i + 1, rfl, by simp [List.drop_drop], ?_⟩
      have : s.data.toList.drop i ≠ [] := fun e => by rw [e] at hc; simp [Lib.hasPrefix] at hc
      have := List.length_pos_iff.2 this
      rw [List.length_drop, ← hsl] at this; omega
    | false => exact ⟨i, rfl, by simp, hi⟩
  rw [hi1] at htk
  generalize Lib.hasPrefix (s.data.toList.drop i) [63] = v at *
  rw [← hd1] at hbad
  have HT := Lib.hid htk; clear htk hp
  have HBAD := Lib.hid hbad; clear hbad
  have HN := Lib.hid hnone; clear hnone hd1 hi1
  go_enter Tryz.func121, Tryz.ntmps121
  go_wp2_with fail
  refine HT.out.mono ?_
  rintro e w1 ⟨rfl, hm1, hp1⟩
  have hnm := name_any pb s i1 w1 hp1 hpre (by omega)
  have HNM := Lib.hid hnm; clear hnm
  have HM0 := Lib.hid hm1
  have HM1 := Lib.hid ((Moves.of_below hW).trans hm1); clear hm1 hp1
  go_wp2_with fail
  refine HNM.out.mono ?_
  rintro e w2 ⟨x, rfl, hx, hxs, hm2, hp2, hi2⟩
  have hxb : nameL x.data.toList = false := by rw [hx]; exact HBAD.out
  have hbox : w2.heap[w.heap.size]? = some (.cells #[.int .i64 0, .string ⟨#[]⟩, .int .i64 0, .slice none 0 0] 24 (0, 0)) := by
    rw [hm2.same _ (by have := HM0.out.size; simp at this; omega) (by omega), HM0.out.same _ (by simp) (by omega)]
    exact heap_alloc_new _ _
  obtain ⟨b0, b1, b2, b3, bf⟩ := box_at hbox
  have HM2 := Lib.hid (HM1.out.trans hm2); clear hx hm2 hp2 hi2 hbox
  rw [hxb]
  clear hxb
  go_wp2_with fail
  refine bodyPost_ret (v := .tuple #[.agg #[.int .i64 0, .string ⟨#[]⟩, .int .i64 0, .slice none 0 0], .bool false]) ?_ rfl ?_
  · simp [results, Tryz.results121, go_sem, b0, b1, b2, b3]
  refine ⟨?_, ?_⟩
  · iterate 4 refine Moves.setNew ?_ (by exact Nat.le_refl _) _
    exact HM2.out
  · rw [HN.out]
    exact ⟨_, _, _, _, _, _, rfl⟩

theorem rep_leaf {w : World} {P : Nat → Prop} (k so : Int) (x : ByteArray) (hx : x.size ≤ maxLen) : RepP w P (.mk k x so []) none 0 := by
  rw [RepP_mk]; exact ⟨hx, Nat.le_refl _, Nat.zero_le _, .inl rfl⟩
theorem prefix_at (s : ByteArray) (j : Nat) (b : UInt8) (h : j < s.size) (hb : s.data.toList[j]'(by rw [← size_list]; exact h) = b) (c : UInt8) : Lib.hasPrefix (s.data.toList.drop j) [c] = (c == b) := by
  have hl : j < s.data.toList.length := by rw [← size_list]; exact h
  rw [List.drop_eq_getElem_cons hl, hb]
  simp [Lib.hasPrefix, List.isPrefixOf]
theorem prefix_end (s : ByteArray) (j : Nat) (h : s.size ≤ j) (c : UInt8) : Lib.hasPrefix (s.data.toList.drop j) [c] = false := by
  rw [List.drop_eq_nil_of_le (by rw [← size_list]; exact h)]; rfl
theorem wlen_pos {l : List UInt8} (h : nameL (l.takeWhile partB) = true) : 0 < wlen l := by
  unfold wlen
  cases e : l.takeWhile partB with
  | nil => rw [e] at h; simp [nameL] at h
  | cons _ _ => simp

set_option maxHeartbeats 4000000 in
set_option maxRecDepth 100000 in
theorem term_var (B pb : Nat) (hB : B ≤ pb) (s : ByteArray) (i n : Nat) (w : World) (hp : Prs pb s i w) (hw : Words B w) (hi : i ≤ s.size) (hs : s.size ≤ 1000000)
    (hv : Lib.hasPrefix (s.data.toList.drop i) [63] = true) (hgood : nameL (((s.data.toList.drop i).drop 1).takeWhile partB) = true) :
    Calls Tryz.prog 121 #[.pointer (some ⟨pb, 0, none⟩)] w (Termed pb s i (n + 1) w) := by
  have hlt : pb < w.heap.size := (Array.getElem?_eq_some_iff.1 hp).1
  have hW : Below w.heap.size w (w.alloc (.cells #[.int .i64 0, .string ⟨#[]⟩, .int .i64 0, .slice none 0 0] 24)) := below1 (Nat.le_refl _) _
  have htk := take_any pb s ⟨#[63]⟩ i _ (hp.keep (hW.block pb hlt)) hi (by omega) (by decide)
  have hsl := size_list s
  rw [show (⟨#[63]⟩ : ByteArray).data.toList = [63] from rfl, hv] at htk
  have hi1 : i + 1 ≤ s.size := by
    have : s.data.toList.drop i ≠ [] := fun e => by rw [e] at hv; simp [Lib.hasPrefix] at hv
    have := List.length_pos_iff.2 this
    rw [List.length_drop, ← hsl] at this; omega
  have hd1 : (s.data.toList.drop i).drop 1 = s.data.toList.drop (i + 1) := by rw [List.drop_drop]
  rw [hd1] at hgood
  have hpt : pterm (n + 1) (s.data.toList.drop i) = pvar ⟨((s.data.toList.drop (i + 1)).takeWhile partB).toArray⟩ (s.data.toList.drop (i + 1 + wlen (s.data.toList.drop (i + 1)))) := by
    rw [pterm, hv, if_neg (by simp only [if_true]; rw [hd1, hgood]; simp), if_pos rfl, hd1, List.drop_drop]
  have hwl := wlen_pos hgood
  have HSL := Lib.hid hsl; clear hsl
  have HT := Lib.hid htk; clear htk hp
  have HW0 := Lib.hid (show Words B w from hw); clear hw
  have HG := Lib.hid hgood; clear hgood
  have HPT := Lib.hid hpt; clear hpt hv hd1
  have HWL := Lib.hid hwl; clear hwl
  have HAT : Hid (∀ k, (h : k < s.size) → s[k] = s.data.toList[k]'(by rw [← size_list]; exact h)) := fun k h => rfl
  go_enter Tryz.func121, Tryz.ntmps121
  go_wp2_with fail
  refine HT.out.mono ?_
  rintro e w1 ⟨rfl, hm1, hp1⟩
  have hnm := name_any pb s (i + 1) w1 hp1 hi1 (by omega)
  have HNM := Lib.hid hnm; clear hnm
  have HM0 := Lib.hid hm1
  have HM1 := Lib.hid ((Moves.of_below hW).trans hm1); clear hm1 hp1
  go_wp2_with fail
  refine HNM.out.mono ?_
  rintro e w2 ⟨x, rfl, hx, hxs, hm2, hp2, hi2⟩
  have hxb : nameL x.data.toList = true := by rw [hx]; exact HG.out
  have hbox : w2.heap[w.heap.size]? = some (.cells #[.int .i64 0, .string ⟨#[]⟩, .int .i64 0, .slice none 0 0] 24 (0, 0)) := by
    rw [hm2.same _ (by have := HM0.out.size; simp at this; omega) (by omega), HM0.out.same _ (by simp) (by omega)]
    exact heap_alloc_new _ _
  have hm02 := HM1.out.trans hm2
  have HX : Hid (pterm (n + 1) (s.data.toList.drop i) = pvar x (s.data.toList.drop (i + 1 + wlen (s.data.toList.drop (i + 1))))) := by
    rw [HPT.out, ← hx, ← bytes_of_list]; exact rfl
  have HMM := Lib.hid hm02; clear hx hm2
  rw [hxb]
  clear hxb
  have hwl' := HWL.out
  obtain ⟨i2, hi2e⟩ : ∃ i2, i2 = i + 1 + wlen (s.data.toList.drop (i + 1)) := ⟨_, rfl⟩
  rw [← hi2e] at HX hp2 hi2
  have hii : i < i2 := by omega
  clear hi2e hwl'
  have hlt2 : w.heap.size < w2.heap.size := (Array.getElem?_eq_some_iff.1 hbox).1
  have HBX := Lib.hid hbox; clear hbox
  have HP2 := Lib.hid hp2; clear hp2
  -- the world with the variable's own block
  go_wp2_with fail
  obtain ⟨W3, hW3⟩ : ∃ W3, W3 = w2.alloc (.cells #[.int .i64 1, .string x, .int .i64 0, .slice none 0 0] 24) := ⟨_, rfl⟩
  rw [← hW3]
  have hb3 : Below w2.heap.size w2 W3 := by rw [hW3]; exact below1 (Nat.le_refl _) _
  have hp3 : Prs pb s i2 W3 := HP2.out.keep (hb3.block pb (by omega))
  have hr3 : W3.heap[w.heap.size]? = some (.cells #[.int .i64 0, .string ⟨#[]⟩, .int .i64 0, .slice none 0 0] 24 (0, 0)) := (hb3.block _ hlt2).trans HBX.out
  have ht3 : W3.heap[w2.heap.size]? = some (.cells #[.int .i64 1, .string x, .int .i64 0, .slice none 0 0] 24 (0, 0)) := by rw [hW3]; exact heap_alloc_new _ _
  have hm3 : Moves pb w W3 := HMM.out.trans (Moves.of_below hb3)
  clear hW3 hb3
  obtain ⟨z0, z1, z2⟩ := hp3.cells
  obtain ⟨r0, r1, r2, r3, rf⟩ := box_at hr3
  obtain ⟨t0, t1, t2, t3, tf⟩ := box_at ht3
  have HP3 := Lib.hid hp3; clear hp3
  have HM3 := Lib.hid hm3; clear hm3
  have HR3 := Lib.hid hr3; clear hr3
  have HT3 := Lib.hid ht3; clear ht3
  have i0 : (0 : Int) ≤ (i2 : Int) := Int.natCast_nonneg _
  by_cases hk : i2 < s.size
  · have hd : decide ((i2 : Int) < (s.size : Int)) = true := decide_eq_true (by omega)
    have hat := HAT.out i2 hk
    obtain ⟨b, hb⟩ : ∃ b, b = s.data.toList[i2]'(by rw [← size_list]; exact hk) := ⟨_, rfl⟩
    rw [← hb] at hat
    have HPX := Lib.hid (prefix_at s i2 b hk hb.symm 58)
    clear hb
    by_cases hb58 : b = 58
    · have hbc : ((b.toNat : Int) == 58) = true := by rw [hb58]; decide
      have hpx : Lib.hasPrefix (s.data.toList.drop i2) [58] = true := by rw [HPX.out, hb58]; decide
      have hst := fun X (h1 : Prs pb s i2 X) (h2 : Words B X) => sort_of_any B pb hB s i2 1 X h1 h2 hi2 (by omega)
      have HST := Lib.hid hst; clear hst
      obtain ⟨q, hq⟩ : ∃ q, q = sorts 1 (s.data.toList.drop i2) := ⟨_, rfl⟩
      rw [← hq] at HST
      have HR : Hid (pterm (n + 1) (s.data.toList.drop i) = if q.2.1 = true then some (.mk 1 x q.1 [], (s.data.toList.drop i2).drop q.2.2) else none) := by
        rw [HX.out, pvar, if_pos hpx, ← hq]; exact rfl
      clear hpx hb58 HPX hq
      obtain ⟨q1, q2, q3⟩ := q
      go_quiet (fail)
      have hpz : Prs pb s i2 (W3.drewN nq) := HP3.out
      have hwz : Words B (W3.drewN nq) := HW0.out.keep (fun b hb => HM3.out.same b (by omega) (by omega))
      have hmz : Moves pb w (W3.drewN nq) := HM3.out.trans (Moves.of_below ((Lay.refl _ _).drewN _).below)
      have hrz : (W3.drewN nq).heap[w.heap.size]? = some (.cells #[.int .i64 0, .string ⟨#[]⟩, .int .i64 0, .slice none 0 0] 24 (0, 0)) := HR3.out
      have htz : (W3.drewN nq).heap[w2.heap.size]? = some (.cells #[.int .i64 1, .string x, .int .i64 0, .slice none 0 0] 24 (0, 0)) := HT3.out
      have hsort := HST.out _ hpz hwz
      clear t0 t1 t2 t3 tf r0 r1 r2 r3 rf z0 z1 z2 hpz hwz
      have HSO := Lib.hid hsort; clear hsort
      have HMZ := Lib.hid hmz; clear hmz
      have HRZ := Lib.hid hrz; clear hrz
      have HTZ := Lib.hid htz; clear htz
      generalize W3.drewN nq = Z at *
      go_wp2_with fail
      refine HSO.out.mono ?_
      rintro e w5 ⟨rfl, hm5, hp5, hle5⟩
      have hr5 : w5.heap[w.heap.size]? = _ := (hm5.same _ (Array.getElem?_eq_some_iff.1 HRZ.out).1 (by omega)).trans HRZ.out
      have ht5 : w5.heap[w2.heap.size]? = _ := (hm5.same _ (Array.getElem?_eq_some_iff.1 HTZ.out).1 (by omega)).trans HTZ.out
      obtain ⟨r0, r1, r2, r3, rf⟩ := box_at hr5
      obtain ⟨t0, t1, t2, t3, tf⟩ := box_at ht5
      have HM5 := Lib.hid (HMZ.out.trans hm5); clear hm5
      have HP5 := Lib.hid hp5; clear hp5
      clear hr5 ht5
      have hne : w2.heap.size ≠ w.heap.size := by omega
      go_wp2_with fail
      refine bodyPost_ret (v := .tuple #[.agg #[.int .i64 1, .string x, .int .i64 q1, .slice none 0 0], .bool q2]) ?_ rfl ?_
      · simp [results, Tryz.results121, go_sem, r0, r1, r2, r3]
      refine ⟨?_, ?_⟩
      · iterate 4 refine Moves.setNew ?_ (by exact Nat.le_refl _) _
        refine Moves.setNew ?_ (by show w.heap.size ≤ w2.heap.size; omega) _
        exact HM5.out
      · rw [HR.out]
        cases q2 with
        | true =>
          rw [if_pos rfl]
          refine ⟨none, 0, i2 + q3, rfl, rep_leaf _ _ _ (by unfold maxLen; omega), by rw [List.drop_drop], hle5, by omega, ?_⟩
          refine HP5.out.keep ?_
          iterate 4 rw [Below.heap_setCell _ _ _ _ (by show pb ≠ w.heap.size; omega)]
          rw [Below.heap_setCell _ _ _ _ (by show pb ≠ w2.heap.size; omega)]
        | false => exact ⟨_, _, _, _, _, _, rfl⟩
    · have hbc : ((b.toNat : Int) == 58) = false := by
        simp only [beq_eq_false_iff_ne, ne_eq]
        intro h; apply hb58; apply UInt8.toNat_inj.1; show b.toNat = 58; omega
      have hpx : Lib.hasPrefix (s.data.toList.drop i2) [58] = false := by rw [HPX.out]; simpa [beq_eq_false_iff_ne] using fun h => hb58 h.symm
      have HR : Hid (pterm (n + 1) (s.data.toList.drop i) = some (.mk 1 x 0 [], s.data.toList.drop i2)) := by
        rw [HX.out, pvar, hpx]; exact rfl
      clear hpx HPX
      go_quiet (fail)
      go_wp2_with fail
      refine bodyPost_ret (v := .tuple #[.agg #[.int .i64 1, .string x, .int .i64 0, .slice none 0 0], .bool true]) ?_ rfl ?_
      · simp [results, Tryz.results121, go_sem, r0, r1, r2, r3]
      refine ⟨?_, ?_⟩
      · iterate 4 refine Moves.setNew ?_ (by exact Nat.le_refl _) _
        exact HM3.out.trans (Moves.of_below ((Lay.refl _ _).drewN _).below)
      · rw [HR.out]
        refine ⟨none, 0, i2, rfl, rep_leaf _ _ _ (by unfold maxLen; omega), rfl, hi2, hii, ?_⟩
        refine HP3.out.keep ?_
        iterate 4 rw [Below.heap_setCell _ _ _ _ (by show pb ≠ w.heap.size; omega)]
        rfl
  · have hd : decide ((i2 : Int) < (s.size : Int)) = false := decide_eq_false (by omega)
    have HPX := Lib.hid (prefix_end s i2 (by omega) 58)
    have HR : Hid (pterm (n + 1) (s.data.toList.drop i) = some (.mk 1 x 0 [], s.data.toList.drop i2)) := by
      rw [HX.out, pvar, HPX.out]; exact rfl
    go_quiet (fail)
    go_wp2_with fail
    refine bodyPost_ret (v := .tuple #[.agg #[.int .i64 1, .string x, .int .i64 0, .slice none 0 0], .bool true]) ?_ rfl ?_
    · simp [results, Tryz.results121, go_sem, r0, r1, r2, r3]
    refine ⟨?_, ?_⟩
    · iterate 4 refine Moves.setNew ?_ (by exact Nat.le_refl _) _
      exact HM3.out.trans (Moves.of_below ((Lay.refl _ _).drewN _).below)
    · rw [HR.out]
      refine ⟨none, 0, i2, rfl, rep_leaf _ _ _ (by unfold maxLen; omega), rfl, hi2, hii, ?_⟩
      refine HP3.out.keep ?_
      iterate 4 rw [Below.heap_setCell _ _ _ _ (by show pb ≠ w.heap.size; omega)]
      rfl
end Go.Proofs.YtipmibjhlpnhjaaGreatDoor
namespace Go.Proofs.YtipmibjhlpnhjaaGreatDoor
open Go.RowKit Go.Sort

set_option maxHeartbeats 4000000 in
set_option maxRecDepth 100000 in
theorem term_atom (B pb : Nat) (hB : B ≤ pb) (s : ByteArray) (i n : Nat) (w : World) (hp : Prs pb s i w) (hw : Words B w) (hi : i ≤ s.size) (hs : s.size ≤ 1000000)
    (hv : Lib.hasPrefix (s.data.toList.drop i) [63] = false) (hgood : nameL ((s.data.toList.drop i).takeWhile partB) = true) (hpar : Lib.hasPrefix ((s.data.toList.drop i).drop (wlen (s.data.toList.drop i))) [40] = false) :
    Calls Tryz.prog 121 #[.pointer (some ⟨pb, 0, none⟩)] w (Termed pb s i (n + 1) w) := by
  have hlt : pb < w.heap.size := (Array.getElem?_eq_some_iff.1 hp).1
  have hW : Below w.heap.size w (w.alloc (.cells #[.int .i64 0, .string ⟨#[]⟩, .int .i64 0, .slice none 0 0] 24)) := below1 (Nat.le_refl _) _
  have htk := take_any pb s ⟨#[63]⟩ i _ (hp.keep (hW.block pb hlt)) hi (by omega) (by decide)
  have hsl := size_list s
  rw [show (⟨#[63]⟩ : ByteArray).data.toList = [63] from rfl, hv] at htk
  have hpt : pterm (n + 1) (s.data.toList.drop i) = patom ⟨((s.data.toList.drop i).takeWhile partB).toArray⟩ (s.data.toList.drop (i + wlen (s.data.toList.drop i))) := by
    rw [pterm, hv, if_neg (by simp only [Bool.false_eq_true, if_false]; rw [hgood]; simp), if_neg (by simp), if_pos hpar, List.drop_drop]
  have hwl := wlen_pos hgood
  have HSL := Lib.hid hsl; clear hsl
  have HT := Lib.hid htk; clear htk hp
  have HW0 := Lib.hid (show Words B w from hw); clear hw
  have HG := Lib.hid hgood; clear hgood
  have HPT := Lib.hid hpt; clear hpt hv
  have HWL := Lib.hid hwl; clear hwl
  have HAT : Hid (∀ k, (h : k < s.size) → s[k] = s.data.toList[k]'(by rw [← size_list]; exact h)) := fun k h => rfl
  go_enter Tryz.func121, Tryz.ntmps121
  go_wp2_with fail
  refine HT.out.mono ?_
  rintro e w1 ⟨rfl, hm1, hp1⟩
  have hnm := name_any pb s i w1 hp1 hi (by omega)
  have HNM := Lib.hid hnm; clear hnm
  have HM0 := Lib.hid hm1
  have HM1 := Lib.hid ((Moves.of_below hW).trans hm1); clear hm1 hp1
  go_wp2_with fail
  refine HNM.out.mono ?_
  rintro e w2 ⟨x, rfl, hx, hxs, hm2, hp2, hi2⟩
  have hxb : nameL x.data.toList = true := by rw [hx]; exact HG.out
  have hbox : w2.heap[w.heap.size]? = some (.cells #[.int .i64 0, .string ⟨#[]⟩, .int .i64 0, .slice none 0 0] 24 (0, 0)) := by
    rw [hm2.same _ (by have := HM0.out.size; simp at this; omega) (by omega), HM0.out.same _ (by simp) (by omega)]
    exact heap_alloc_new _ _
  have hm02 := HM1.out.trans hm2
  have HX : Hid (pterm (n + 1) (s.data.toList.drop i) = patom x (s.data.toList.drop (i + wlen (s.data.toList.drop i)))) := by
    rw [HPT.out, ← hx, ← bytes_of_list]; exact rfl
  have HMM := Lib.hid hm02; clear hx hm2
  rw [hxb]
  clear hxb
  have hwl' := HWL.out
  obtain ⟨i2, hi2e⟩ : ∃ i2, i2 = i + wlen (s.data.toList.drop i) := ⟨_, rfl⟩
  rw [List.drop_drop, ← hi2e] at hpar
  rw [← hi2e] at HX hp2 hi2
  have hii : i < i2 := by omega
  clear hi2e hwl'
  have hlt2 : w.heap.size < w2.heap.size := (Array.getElem?_eq_some_iff.1 hbox).1
  have HBX := Lib.hid hbox; clear hbox
  have htk2 := take_any pb s ⟨#[40]⟩ i2 w2 hp2 hi2 (by omega) (by decide)
  rw [show (⟨#[40]⟩ : ByteArray).data.toList = [40] from rfl, hpar] at htk2
  have HT2 := Lib.hid htk2; clear htk2 hp2 hpar
  go_wp2_with fail
  refine HT2.out.mono ?_
  rintro e w3 ⟨rfl, hm3, hp3⟩
  have hb3 : w3.heap[w.heap.size]? = _ := (hm3.same _ hlt2 (by omega)).trans HBX.out
  have hs3 := hm3.size
  obtain ⟨q, hq⟩ : ∃ q, q = sorts 0 (s.data.toList.drop i2) := ⟨_, rfl⟩
  have HR : Hid (pterm (n + 1) (s.data.toList.drop i) = if q.2.1 = true then some (.mk 2 x q.1 [], (s.data.toList.drop i2).drop q.2.2) else none) := by
    rw [HX.out, patom, ← hq]; exact rfl
  -- the world with the atom's own block
  obtain ⟨Z, hZ⟩ : ∃ Z, Z = w3.alloc (.cells #[.int .i64 2, .string x, .int .i64 0, .slice none 0 0] 24) := ⟨_, rfl⟩
  have hbz : Below w3.heap.size w3 Z := by rw [hZ]; exact below1 (Nat.le_refl _) _
  have hpz : Prs pb s i2 Z := hp3.keep (hbz.block pb (Array.getElem?_eq_some_iff.1 hp3).1)
  have hmz : Moves pb w Z := (HMM.out.trans hm3).trans (Moves.of_below hbz)
  have hwz : Words B Z := HW0.out.keep (fun b hb => hmz.same b (by omega) (by omega))
  have hsort := sort_of_any B pb hB s i2 0 Z hpz hwz hi2 (by omega)
  rw [← hq] at hsort
  clear hq
  obtain ⟨q1, q2, q3⟩ := q
  have hrz : Z.heap[w.heap.size]? = some (.cells #[.int .i64 0, .string ⟨#[]⟩, .int .i64 0, .slice none 0 0] 24 (0, 0)) := (hbz.block _ (by omega)).trans hb3
  have htz : Z.heap[w3.heap.size]? = some (.cells #[.int .i64 2, .string x, .int .i64 0, .slice none 0 0] 24 (0, 0)) := by rw [hZ]; exact heap_alloc_new _ _
  have HSO := Lib.hid hsort; clear hsort hpz hwz hb3 hbz hm3 hp3
  have HMZ := Lib.hid hmz; clear hmz
  have HRZ := Lib.hid hrz; clear hrz
  have HTZ := Lib.hid htz; clear htz
  go_wp2_with fail
  rw [← hZ]
  clear hZ
  refine HSO.out.mono ?_
  rintro e w5 ⟨rfl, hm5, hp5, hle5⟩
  have hr5 : w5.heap[w.heap.size]? = _ := (hm5.same _ (Array.getElem?_eq_some_iff.1 HRZ.out).1 (by omega)).trans HRZ.out
  have ht5 : w5.heap[w3.heap.size]? = _ := (hm5.same _ (Array.getElem?_eq_some_iff.1 HTZ.out).1 (by omega)).trans HTZ.out
  obtain ⟨r0, r1, r2, r3, rf⟩ := box_at hr5
  obtain ⟨t0, t1, t2, t3, tf⟩ := box_at ht5
  have HM5 := Lib.hid (HMZ.out.trans hm5); clear hm5
  have HP5 := Lib.hid hp5; clear hp5
  clear hr5 ht5
  have hne : w3.heap.size ≠ w.heap.size := by omega
  go_wp2_with fail
  refine bodyPost_ret (v := .tuple #[.agg #[.int .i64 2, .string x, .int .i64 q1, .slice none 0 0], .bool q2]) ?_ rfl ?_
  · simp [results, Tryz.results121, go_sem, r0, r1, r2, r3]
  refine ⟨?_, ?_⟩
  · iterate 4 refine Moves.setNew ?_ (by exact Nat.le_refl _) _
    refine Moves.setNew ?_ (by show w.heap.size ≤ w3.heap.size; omega) _
    exact HM5.out
  · rw [HR.out]
    cases q2 with
    | true =>
      rw [if_pos rfl]
      refine ⟨none, 0, i2 + q3, rfl, rep_leaf _ _ _ (by unfold maxLen; omega), by rw [List.drop_drop], hle5, by omega, ?_⟩
      refine HP5.out.keep ?_
      iterate 4 rw [Below.heap_setCell _ _ _ _ (by show pb ≠ w.heap.size; omega)]
      rw [Below.heap_setCell _ _ _ _ (by show pb ≠ w3.heap.size; omega)]
    | false => exact ⟨_, _, _, _, _, _, rfl⟩
end Go.Proofs.YtipmibjhlpnhjaaGreatDoor
namespace Go.Proofs.YtipmibjhlpnhjaaGreatDoor
open Go.RowKit Go.Sort

/-- one term behind a row, whatever its kids' blocks are -/
theorem RowT.grow1 {w : World} {base : Nat} {F : Nat → Prop} {v : Value} {its : List It} (hrow : RowT w base F v its) (hbase : base ≤ w.heap.size) (X : It) (B c : Nat) (fr : Nat × Nat) (hB : w.heap[B]? = some (.cells (X.1.cells X.2.1 X.2.2).toArray 24 fr))
    (hX : RepP w (fun b => F b ∧ b < w.heap.size ∧ v.ownBlock ≠ some b) X.1 X.2.1 X.2.2) (hlen : its.length + 1 ≤ 100000000) :
    ∃ g cap w', (∀ ty, (Builtin.append_ #[22, 22] ty #[v, .slice (some ⟨B, 0, none⟩) 1 c]).run Tryz.prog w = .ok (.slice (some ⟨g, 0, none⟩) (its.length + 1) cap) w') ∧
      RowT w' base F (.slice (some ⟨g, 0, none⟩) (its.length + 1) cap) (its ++ [X]) ∧ w.grownBy w' v.ownBlock ∧ base ≤ g := by
  obtain ⟨i0, hi0, hz0, hz1, hz2⟩ := info_parts termInfo
  obtain ⟨g, cap, w', h1, h2, h3, h4, _⟩ := run_append_lies (P := Tryz.prog) w 22 0 base 24 i0 _ 4 56 Tryz.underlying22 hi0 hz0 hz1 hz2 rfl (by omega) v its.length (itCells its) hrow.own ⟨B, 0, none⟩ 1 c (X.1.cells X.2.1 X.2.2) rfl
    (fun j u hu => World.news_of_block hB j u (by simpa using hu)) (fun u hu => itCells_one [X] u (by simpa [itCells] using hu)) (by omega) (by unfold maxLen; omega) (by omega) hbase w.heap.size rfl
  have hR := push_row hrow hX h2 h3 h4
  exact ⟨g, cap, w', fun ty => h1, hR, h3, (hR.lt g rfl).1⟩

def nextKid (n : Nat) (w : ByteArray) (acc : List Tm) : Option (Tm × List UInt8) → Option (Tm × List UInt8)
  | none => none
  | some (k, r) => pkids n w (acc ++ [k]) r
theorem pkids_next (n : Nat) (w : ByteArray) (acc : List Tm) (l : List UInt8) (h1 : Lib.hasPrefix l [41] = false) (h2 : acc = [] ∨ Lib.hasPrefix l [44, 32] = true) :
    pkids (n + 1) w acc l = nextKid n w acc (pterm n (if acc ≠ [] then l.drop 2 else l)) := by
  rw [pkids, if_neg (by rw [h1]; simp), if_neg (by rcases h2 with h | h <;> simp [h])]
  unfold nextKid
  rcases pterm n (if acc ≠ [] then l.drop 2 else l) with _ | ⟨k, r⟩ <;> rfl
theorem pkids_stop (n : Nat) (w : ByteArray) (acc : List Tm) (l : List UInt8) (h1 : Lib.hasPrefix l [41] = false) (h2 : acc ≠ []) (h3 : Lib.hasPrefix l [44, 32] = false) : pkids (n + 1) w acc l = none := by
  rw [pkids, if_neg (by rw [h1]; simp), if_pos ⟨h2, h3⟩]

set_option maxHeartbeats 4000000 in
set_option maxRecDepth 100000 in
theorem term_app (B pb : Nat) (hB : B ≤ pb) (s : ByteArray) (i n : Nat) (w : World) (hp : Prs pb s i w) (hw : Words B w) (hi : i ≤ s.size) (hs : s.size ≤ 1000000)
    (hv : Lib.hasPrefix (s.data.toList.drop i) [63] = false) (hgood : nameL ((s.data.toList.drop i).takeWhile partB) = true) (hpar : Lib.hasPrefix ((s.data.toList.drop i).drop (wlen (s.data.toList.drop i))) [40] = true)
    (ih : ∀ m, m ≤ n → ∀ i w, Prs pb s i w → Words B w → i ≤ s.size → 2 * (s.size - i) + 1 ≤ m → Calls Tryz.prog 121 #[.pointer (some ⟨pb, 0, none⟩)] w (Termed pb s i m w))
    (hfuel : 2 * (s.size - i) + 1 ≤ n + 1) :
    Calls Tryz.prog 121 #[.pointer (some ⟨pb, 0, none⟩)] w (Termed pb s i (n + 1) w) := by
  have hlt : pb < w.heap.size := (Array.getElem?_eq_some_iff.1 hp).1
  have hW : Below w.heap.size w (w.alloc (.cells #[.int .i64 0, .string ⟨#[]⟩, .int .i64 0, .slice none 0 0] 24)) := below1 (Nat.le_refl _) _
  have htk := take_any pb s ⟨#[63]⟩ i _ (hp.keep (hW.block pb hlt)) hi (by omega) (by decide)
  have hsl := size_list s
  rw [show (⟨#[63]⟩ : ByteArray).data.toList = [63] from rfl, hv] at htk
  have hpt : pterm (n + 1) (s.data.toList.drop i) = pkids n ⟨((s.data.toList.drop i).takeWhile partB).toArray⟩ [] (s.data.toList.drop (i + (wlen (s.data.toList.drop i) + 1))) := by
    rw [pterm, hv, if_neg (by simp only [Bool.false_eq_true, if_false]; rw [hgood]; simp), if_neg (by simp), if_neg (by rw [hpar]; simp), List.drop_drop, List.drop_drop]
  have hwl := wlen_pos hgood
  have HSL := Lib.hid hsl; clear hsl
  have HT := Lib.hid htk; clear htk hp
  have HW0 := Lib.hid (show Words B w from hw); clear hw
  have HG := Lib.hid hgood; clear hgood
  have HPT := Lib.hid hpt; clear hpt hv
  have HWL := Lib.hid hwl; clear hwl
  have HAT : Hid (∀ k, (h : k < s.size) → s[k] = s.data.toList[k]'(by rw [← size_list]; exact h)) := fun k h => rfl
  go_enter Tryz.func121, Tryz.ntmps121
  go_wp2_with fail
  refine HT.out.mono ?_
  rintro e w1 ⟨rfl, hm1, hp1⟩
  have hnm := name_any pb s i w1 hp1 hi (by omega)
  have HNM := Lib.hid hnm; clear hnm
  have HM0 := Lib.hid hm1
  have HM1 := Lib.hid ((Moves.of_below hW).trans hm1); clear hm1 hp1
  go_wp2_with fail
  refine HNM.out.mono ?_
  rintro e w2 ⟨x, rfl, hx, hxs, hm2, hp2, hi2⟩
  have hxb : nameL x.data.toList = true := by rw [hx]; exact HG.out
  have hbox : w2.heap[w.heap.size]? = some (.cells #[.int .i64 0, .string ⟨#[]⟩, .int .i64 0, .slice none 0 0] 24 (0, 0)) := by
    rw [hm2.same _ (by have := HM0.out.size; simp at this; omega) (by omega), HM0.out.same _ (by simp) (by omega)]
    exact heap_alloc_new _ _
  have hm02 := HM1.out.trans hm2
  have HX : Hid (pterm (n + 1) (s.data.toList.drop i) = pkids n x [] (s.data.toList.drop (i + wlen (s.data.toList.drop i) + 1))) := by
    rw [HPT.out, ← hx, ← bytes_of_list, Nat.add_assoc]; exact rfl
  have HMM := Lib.hid hm02; clear hx hm2
  rw [hxb]
  clear hxb
  have hwl' := HWL.out
  obtain ⟨i2, hi2e⟩ : ∃ i2, i2 = i + wlen (s.data.toList.drop i) := ⟨_, rfl⟩
  rw [List.drop_drop, ← hi2e] at hpar
  rw [← hi2e] at HX hp2 hi2
  have hii : i < i2 := by omega
  clear hi2e hwl'
  have hlt2 : w.heap.size < w2.heap.size := (Array.getElem?_eq_some_iff.1 hbox).1
  have HBX := Lib.hid hbox; clear hbox
  have htk2 := take_any pb s ⟨#[40]⟩ i2 w2 hp2 hi2 (by omega) (by decide)
  rw [show (⟨#[40]⟩ : ByteArray).data.toList = [40] from rfl, hpar] at htk2
  have hpar2 := hpar
  have HT2 := Lib.hid htk2; clear htk2 hp2 hpar
  go_wp2_with fail
  refine HT2.out.mono ?_
  rintro e w3 ⟨rfl, hm3, hp3⟩
  have hb3 : w3.heap[w.heap.size]? = _ := (hm3.same _ hlt2 (by omega)).trans HBX.out
  have hs3 := hm3.size
  have hi3 : i2 + 1 ≤ s.size := by
    have : s.data.toList.drop i2 ≠ [] := fun e => by rw [e] at hpar2; simp [Lib.hasPrefix] at hpar2
    have := List.length_pos_iff.2 this
    rw [List.length_drop, ← size_list] at this; omega
  clear hpar2
  -- the world with the application's own block
  obtain ⟨Z, hZ⟩ : ∃ Z, Z = w3.alloc (.cells #[.int .i64 3, .string x, .int .i64 0, .slice none 0 0] 24) := ⟨_, rfl⟩
  have hbz : Below w3.heap.size w3 Z := by rw [hZ]; exact below1 (Nat.le_refl _) _
  have hsz : Z.heap.size = w3.heap.size + 1 := by rw [hZ]; simp
  have hpz : Prs pb s (i2 + 1) Z := (show Prs pb s (i2 + 1) w3 from hp3).keep (hbz.block pb (Array.getElem?_eq_some_iff.1 hp3).1)
  have hmz : Moves pb w Z := (HMM.out.trans hm3).trans (Moves.of_below hbz)
  have hrz : Z.heap[w.heap.size]? = some (.cells #[.int .i64 0, .string ⟨#[]⟩, .int .i64 0, .slice none 0 0] 24 (0, 0)) := (hbz.block _ (by omega)).trans hb3
  have htz : Z.heap[w3.heap.size]? = some (.cells #[.int .i64 3, .string x, .int .i64 0, .slice none 0 0] 24 (0, 0)) := by rw [hZ]; exact heap_alloc_new _ _
  have HPZ := Lib.hid hpz; clear hpz hb3 hbz hm3 hp3
  have HMZ := Lib.hid hmz; clear hmz
  have HRZ := Lib.hid hrz; clear hrz
  have HTZ := Lib.hid htz; clear htz
  have IH := Lib.hid ih; clear ih
  obtain ⟨tb, htb⟩ : ∃ tb, tb = w3.heap.size := ⟨_, rfl⟩
  have hsz2 : Z.heap.size = tb + 1 := by omega
  have HSZ := Lib.hid hsz2; clear hsz hsz2
  rw [← htb] at HTZ
  have hwt : w.heap.size < tb := by omega
  have hne : tb ≠ w.heap.size := by omega
  have hptb : pb < tb := by omega
  go_wp2_with fail
  rw [← hZ, ← htb]
  clear hZ htb
  go_loopw [70] (fun _ wr => ∃ (m j : Nat) (v : Value) (its : List It), Hid (pkids m x (its.map (·.1)) (s.data.toList.drop j) = pterm (n + 1) (s.data.toList.drop i)) ∧ m ≤ n ∧ 2 * (s.size - j) + 2 ≤ m ∧ j ≤ s.size ∧ i < j ∧ Hid (Prs pb s j wr) ∧ Hid (Moves pb w wr) ∧
      Hid (wr.heap[w.heap.size]? = some (.cells #[.int .i64 0, .string ⟨#[]⟩, .int .i64 0, .slice none 0 0] 24 (0, 0))) ∧ Hid (wr.heap[tb]? = some (.cells #[.int .i64 3, .string x, .int .i64 0, v] 24 (0, 0))) ∧
      Hid (RowT wr (tb + 1) (fun b => tb + 1 ≤ b) v its) ∧ its.length ≤ j)
    (fun _ wr => s.size - (intOf ((wr.cell? ⟨pb, 1, none⟩).getD undef)).toNat)
  case atStart => exact ⟨n, i2 + 1, .slice none 0 0, [], HX.out.symm, Nat.le_refl _, by omega, hi3, by omega, HPZ.out, HMZ.out, HRZ.out, HTZ.out, RowT.nil _ _ _, by simp⟩
  case round =>
    obtain ⟨m, j, v, its, HK, hmn, hmf, hjs, hij, HP, HM, HRB, HTB, HR, hil⟩ := hrel
    obtain ⟨m', rfl⟩ : ∃ m', m = m' + 1 := ⟨m - 1, by omega⟩
    obtain ⟨Av, cv, rfl, _⟩ := HR.out.toS (P := fun _ => True) (fun _ _ _ => trivial) (fun _ _ _ => trivial)
    have hrsz : tb + 1 ≤ wr.heap.size := by have h1 := (Array.getElem?_eq_some_iff.1 HTB.out).1; omega
    have hrlt : w.heap.size < wr.heap.size := by omega
    have htk3 := take_any pb s ⟨#[41]⟩ j wr HP.out hjs (by omega) (by decide)
    rw [show (⟨#[41]⟩ : ByteArray).data.toList = [41] from rfl] at htk3
    cases hcl : Lib.hasPrefix (s.data.toList.drop j) [41] with
    | true =>
      rw [hcl] at htk3
      have HTK := Lib.hid htk3; clear htk3
      have HRES : Hid (pterm (n + 1) (s.data.toList.drop i) = some (.mk 3 x 0 (its.map (·.1)), s.data.toList.drop (j + 1))) := by
        rw [← HK.out, pkids, if_pos hcl, List.drop_drop]
        exact rfl
      go_wp2_with fail
      refine HTK.out.mono ?_
      rintro e w6 ⟨rfl, hm6, hp6⟩
      have hr6 : w6.heap[w.heap.size]? = _ := (hm6.same _ hrlt (by omega)).trans HRB.out
      have ht6 : w6.heap[tb]? = _ := (hm6.same _ (by omega) (by omega)).trans HTB.out
      obtain ⟨r0, r1, r2, r3, rf⟩ := box_at hr6
      obtain ⟨t0, t1, t2, t3, tf⟩ := box_at ht6
      obtain ⟨A1, c1, he, hS⟩ := HR.out.toS (P := fun b => tb + 1 ≤ b ∧ b < wr.heap.size) (fun b h h' => ⟨h, h'⟩) (fun b h h' => ⟨h, h'⟩)
      injection he with he1 he2 he3
      subst he1 he3
      have HS := Lib.hid hS; clear hS he2
      have HM6 := Lib.hid hm6; clear hm6 hr6 ht6
      have HP6 := Lib.hid (show Prs pb s (j + 1) w6 from hp6); clear hp6
      have hj1 : j + 1 ≤ s.size := by
        have : s.data.toList.drop j ≠ [] := fun e => by rw [e] at hcl; simp [Lib.hasPrefix] at hcl
        have := List.length_pos_iff.2 this
        rw [List.length_drop, ← size_list] at this; omega
      clear hcl
      go_wp2_with fail
      refine bodyPost_ret (v := .tuple #[.agg #[.int .i64 3, .string x, .int .i64 0, .slice Av its.length cv], .bool true]) ?_ rfl ?_
      · simp [results, Tryz.results121, go_sem, r0, r1, r2, r3]
      refine ⟨?_, ?_⟩
      · iterate 4 refine Moves.setNew ?_ (by exact Nat.le_refl _) _
        exact HM.out.trans HM6.out
      · rw [HRES.out]
        refine ⟨Av, cv, j + 1, by simp [Tm.val, Tm.kind, Tm.name, Tm.sort, Tm.kids], ?_, rfl, hj1, by omega, ?_⟩
        · rw [RepP_mk]
          have hs6 := HM6.out.size
          refine ⟨by unfold maxLen; omega, RepS.mono ?_ ?_ HS.out⟩
          · rintro b ⟨h1, h2⟩; exact ⟨by omega, by simp [World.setCell]; omega⟩
          · rintro q ⟨h1, h2⟩
            have hq : ∀ o, (⟨w.heap.size, o, none⟩ : Addr) ≠ q := fun o e => by rw [← e] at h1; simp at h1; omega
            rw [World.cell?_setCell_other _ _ _ _ (hq _), World.cell?_setCell_other _ _ _ _ (hq _), World.cell?_setCell_other _ _ _ _ (hq _), World.cell?_setCell_other _ _ _ _ (hq _)]
            exact World.cell?_of_block (HM6.out.same _ h2 (by omega))
        · refine HP6.out.keep ?_
          iterate 4 rw [Below.heap_setCell _ _ _ _ (by show pb ≠ w.heap.size; omega)]
    | false =>
      rw [hcl] at htk3
      have HTK := Lib.hid htk3; clear htk3
      by_cases hits : its = []
      · subst hits
        have HKK : Hid (nextKid m' x (([] : List It).map (·.1)) (pterm m' (s.data.toList.drop j)) = pterm (n + 1) (s.data.toList.drop i)) := by
          have h := HK.out; rw [List.map_nil, pkids_next _ _ _ _ hcl (.inl rfl), if_neg (by simp)] at h; exact h
        clear hcl
        go_wp2_with fail
        refine HTK.out.mono ?_
        rintro e w7 ⟨rfl, hm7, hp7⟩
        have hr7 : w7.heap[w.heap.size]? = _ := (hm7.same _ hrlt (by omega)).trans HRB.out
        have ht7 : w7.heap[tb]? = _ := (hm7.same _ (by omega) (by omega)).trans HTB.out
        obtain ⟨r0, r1, r2, r3, rf⟩ := box_at hr7
        obtain ⟨t0, t1, t2, t3, tf⟩ := box_at ht7
        clear hr7 ht7
        have HM7 := Lib.hid hm7; clear hm7
        have HP7 := Lib.hid (show Prs pb s j w7 from hp7); clear hp7
        obtain ⟨j1, hj1e⟩ : ∃ j1, j1 = j := ⟨_, rfl⟩
        rw [← hj1e] at HKK HP7
        have hj1 : j1 ≤ s.size := by omega
        have hjj1 : j ≤ j1 := by omega
        clear hj1e
        have hm7s := HM7.out.size
        have hw7 : Words B w7 := HW0.out.keep (fun b hb => (HM.out.trans HM7.out).same b (by omega) (by omega))
        have htm := IH.out m' (by omega) j1 w7 HP7.out hw7 hj1 (by omega)
        clear hw7
        unfold Termed at htm
        cases hpt : pterm m' (s.data.toList.drop j1) with
        | none =>
          rw [hpt] at htm HKK
          have HRES : Hid (pterm (n + 1) (s.data.toList.drop i) = none) := HKK.out.symm
          have HTM := Lib.hid htm; clear htm hpt
          go_wp2_with fail
          refine HTM.out.mono ?_
          rintro e w8 ⟨hm8, k, nm, so, A, l, c, rfl⟩
          have hr8 : w8.heap[w.heap.size]? = _ := ((HM7.out.trans hm8).same _ hrlt (by omega)).trans HRB.out
          have ht8 : w8.heap[tb]? = _ := ((HM7.out.trans hm8).same _ (by omega) (by omega)).trans HTB.out
          obtain ⟨r0, r1, r2, r3, rf⟩ := box_at hr8
          obtain ⟨t0, t1, t2, t3, tf⟩ := box_at ht8
          have hl1 := (Array.getElem?_eq_some_iff.1 hr8).1
          have hl2 := (Array.getElem?_eq_some_iff.1 ht8).1
          have HM8 := Lib.hid hm8; clear hm8 hr8 ht8
          go_wp2_with fail
          refine bodyPost_ret (v := .tuple #[.agg #[.int .i64 3, .string x, .int .i64 0, .slice Av 0 cv], .bool false]) ?_ rfl ?_
          · simp [results, Tryz.results121, go_sem, r0, r1, r2, r3, hl1]
          refine ⟨?_, ?_⟩
          · refine Moves.trans ?_ (Moves.of_below (below1 (Nat.le_refl _) _))
            iterate 4 refine Moves.setNew ?_ (by exact Nat.le_refl _) _
            exact (HM.out.trans HM7.out).trans HM8.out
          · rw [HRES.out]
            exact ⟨_, _, _, _, _, _, rfl⟩
        | some kr =>
          obtain ⟨k, r⟩ := kr
          rw [hpt] at htm HKK
          have HTM := Lib.hid htm; clear htm hpt
          go_wp2_with fail
          refine HTM.out.mono ?_
          rintro e w8 ⟨hm8, A8, c8, j8, rfl, hrep8, hd8, hj8, hjj8, hp8⟩
          have hr8 : w8.heap[w.heap.size]? = _ := ((HM7.out.trans hm8).same _ hrlt (by omega)).trans HRB.out
          have ht8 : w8.heap[tb]? = _ := ((HM7.out.trans hm8).same _ (by omega) (by omega)).trans HTB.out
          obtain ⟨t0, t1, t2, t3, tf⟩ := box_at ht8
          have hl1 := (Array.getElem?_eq_some_iff.1 hr8).1
          have hl2 := (Array.getElem?_eq_some_iff.1 ht8).1
          have hs8 := hm8.size
          have hrow8 : RowT w8 (tb + 1) (fun b => tb + 1 ≤ b) (.slice Av _ cv) _ := HR.out.keep (by omega) (fun b hb hF => (HM7.out.trans hm8).same b hb (by
            rcases hF with h | h
            · omega
            · have := (HR.out.lt b h).1; omega))
          have hown : ∀ b, (Value.slice Av _ cv).ownBlock = some b → b < wr.heap.size := fun b hb => (HR.out.lt b hb).2
          have hHK8 := HKK.out
          simp only [nextKid] at hHK8
          rw [← hd8] at hHK8
          have HK8 := Lib.hid hHK8; clear hHK8 hd8
          have HM8 := Lib.hid hm8; clear hm8
          have HR8 := Lib.hid hr8; clear hr8
          have HT8 := Lib.hid ht8; clear ht8
          have HP8 := Lib.hid hp8; clear hp8
          have HREP8 := Lib.hid hrep8; clear hrep8
          have HROW8 := Lib.hid hrow8; clear hrow8
          have hb10 : Below w8.heap.size w8 ((w8.alloc (.cells #[.int .i64 k.kind, .string k.name, .int .i64 k.sort, .slice A8 k.kids.length c8] 24)).alloc (.cells #[.int .i64 k.kind, .string k.name, .int .i64 k.sort, .slice A8 k.kids.length c8] 24)) :=
            (below1 (Nat.le_refl _) _).alloc (by simp) _
          have hsrc := heap_alloc_new (w8.alloc (.cells #[.int .i64 k.kind, .string k.name, .int .i64 k.sort, .slice A8 k.kids.length c8] 24)) (.cells #[.int .i64 k.kind, .string k.name, .int .i64 k.sort, .slice A8 k.kids.length c8] 24)
          rw [World.size_alloc] at hsrc
          obtain ⟨g, cap2, w9, hap, hrow9, hgr9, hbg9⟩ := (HROW8.out.below hb10).grow1 (by simp; omega) (k, A8, c8) (w8.heap.size + 1) 1 (0, 0) hsrc
            (RepP.mono (fun b ⟨h1, h2⟩ => ⟨by omega, by simp; omega, fun e => by have := hown b e; omega⟩) (fun q ⟨h1, h2⟩ => hb10.cell h2) _ _ _ HREP8.out) (by first | (simp; done) | (simp; omega) | omega)
          have hs9 : w8.heap.size + 2 ≤ w9.heap.size := by have := hgr9.size; simp at this; omega
          have hblk : ∀ b, b < tb + 1 → w9.heap[b]? = w8.heap[b]? := fun b hb => by
            rw [hgr9.block b (by simp; omega) (fun e => by have := (HROW8.out.lt b e.symm).1; omega)]
            exact hb10.block b (by omega)
          have ht9 : w9.heap[tb]? = _ := (hblk tb (by omega)).trans HT8.out
          obtain ⟨u0, u1, u2, u3', uf⟩ := box_at ht9
          have HT9 := Lib.hid ht9; clear ht9
          have hm9 : Moves pb w w9 := by
            have h := (HM.out.trans HM7.out).trans HM8.out
            exact ⟨by have := h.size; omega, fun b hb hne => (hblk b (by omega)).trans (h.same b hb hne), (hgr9.os.trans hb10.os).trans h.os, (hgr9.tape.trans hb10.tape).trans h.tape, (hgr9.output.trans hb10.output).trans h.output⟩
          have HM9 := Lib.hid hm9; clear hm9
          have HBLK := Lib.hid hblk; clear hblk
          have hrow9' := hrow9.setCell (p := ⟨tb, 3, none⟩) (by first | (simp; done) | (simp; omega)) (by show tb < tb + 1; omega) (.slice (some ⟨g, 0, none⟩) 1 cap2)
          have HROW9 := Lib.hid hrow9'; clear hrow9' hrow9 hgr9
          simp only [Tm.val]
          go_wp2_with (at_builtin; refine wpList_run_append rfl _ _ rfl rfl rfl hap ?_)
          go_roundw
          case rel =>
            refine ⟨m', j8, _, ([] : List It) ++ [(k, A8, c8)], (by rw [List.map_append]; exact HK8.out), by omega, by omega, hj8, by omega, ?_, ?_, ?_, heap_set3 HT9.out, HROW9.out, ?_⟩
            · refine HP8.out.keep ?_
              rw [Below.heap_setCell _ _ _ _ (by show pb ≠ tb; omega)]; exact HBLK.out pb (by omega)
            · refine Moves.setNew HM9.out (by show w.heap.size ≤ tb; omega) _
            · rw [Below.heap_setCell _ _ _ _ (by show w.heap.size ≠ tb; omega), HBLK.out _ (by omega)]; exact HR8.out
            · simp; omega
          case measure =>
            have h2 := HP.out.cells.2.1
            have h3 : (w9.setCell ⟨tb, 3, none⟩ (.slice (some ⟨g, 0, none⟩) 1 cap2)).cell? ⟨pb, 1, none⟩ = some (.int .i64 j8) := by
              rw [World.cell?_setCell_other _ _ _ _ (fun e => by injection e with e; omega), World.cell?_of_block (HBLK.out pb (by omega))]
              exact HP8.out.cells.2.1
            rw [h2, h3]
            simp [intOf]
            omega
      · have hpos : 0 < its.length := List.length_pos_iff.2 hits
        have hmne : its.map (·.1) ≠ [] := by simpa using hits
        have hdp : decide (0 < its.length) = true := decide_eq_true hpos
        go_wp2_with fail
        refine HTK.out.mono ?_
        rintro e w6 ⟨rfl, hm6, hp6⟩
        have hp6' : Prs pb s j w6 := hp6
        have htk4 := take_any pb s ⟨#[44, 32]⟩ j w6 hp6' hjs (by omega) (by decide)
        rw [show (⟨#[44, 32]⟩ : ByteArray).data.toList = [44, 32] from rfl] at htk4
        have hr6 : w6.heap[w.heap.size]? = _ := (hm6.same _ hrlt (by omega)).trans HRB.out
        have ht6 : w6.heap[tb]? = _ := (hm6.same _ (by omega) (by omega)).trans HTB.out
        obtain ⟨r0, r1, r2, r3, rf⟩ := box_at hr6
        obtain ⟨t0, t1, t2, t3, tf⟩ := box_at ht6
        have HM6 := Lib.hid hm6; clear hm6 hp6 hp6'
        have hs6 := HM6.out.size
        cases hcm : Lib.hasPrefix (s.data.toList.drop j) [44, 32] with
        | false =>
          rw [hcm] at htk4
          have HTK4 := Lib.hid htk4; clear htk4
          have HRES : Hid (pterm (n + 1) (s.data.toList.drop i) = none) := by rw [← HK.out]; exact pkids_stop _ _ _ _ hcl hmne hcm
          have HR6 := Lib.hid hr6; clear hr6
          have HT6 := Lib.hid ht6; clear ht6
          clear hcm hcl
          go_wp2_with fail
          refine HTK4.out.mono ?_
          rintro e w7 ⟨rfl, hm7, hp7⟩
          have hr7 : w7.heap[w.heap.size]? = _ := (hm7.same _ (by omega) (by omega)).trans HR6.out
          have ht7 : w7.heap[tb]? = _ := (hm7.same _ (by omega) (by omega)).trans HT6.out
          clear r0 r1 r2 r3 rf t0 t1 t2 t3 tf
          obtain ⟨r0, r1, r2, r3, rf⟩ := box_at hr7
          obtain ⟨t0, t1, t2, t3, tf⟩ := box_at ht7
          have HM7 := Lib.hid hm7; clear hm7 hp7 hr7 ht7
          go_wp2_with fail
          refine bodyPost_ret (v := .tuple #[.agg #[.int .i64 3, .string x, .int .i64 0, .slice Av its.length cv], .bool false]) ?_ rfl ?_
          · simp [results, Tryz.results121, go_sem, r0, r1, r2, r3]
          refine ⟨?_, ?_⟩
          · iterate 4 refine Moves.setNew ?_ (by exact Nat.le_refl _) _
            exact (HM.out.trans HM6.out).trans HM7.out
          · rw [HRES.out]
            exact ⟨_, _, _, _, _, _, rfl⟩
        | true =>
          rw [hcm] at htk4
          have HTK4 := Lib.hid htk4; clear htk4
          have HR6 := Lib.hid hr6; clear hr6
          have HT6 := Lib.hid ht6; clear ht6
          have HKK : Hid (nextKid m' x (its.map (·.1)) (pterm m' (s.data.toList.drop (j + 2))) = pterm (n + 1) (s.data.toList.drop i)) := by
            have h := HK.out; rw [pkids_next _ _ _ _ hcl (.inr hcm), if_pos hmne, List.drop_drop] at h; exact h
          have hj2 : j + 2 ≤ s.size := by
            have h : 2 ≤ (s.data.toList.drop j).length := by
              match s.data.toList.drop j, hcm with
              | [], h => simp [Lib.hasPrefix] at h
              | [_], h => simp [Lib.hasPrefix, List.isPrefixOf] at h
              | _ :: _ :: _, _ => simp
            rw [List.length_drop, ← size_list] at h; omega
          clear hcm hcl
          go_wp2_with fail
          refine HTK4.out.mono ?_
          rintro e w7 ⟨rfl, hm7, hp7⟩
          have hr7 : w7.heap[w.heap.size]? = _ := (hm7.same _ (by omega) (by omega)).trans HR6.out
          have ht7 : w7.heap[tb]? = _ := (hm7.same _ (by omega) (by omega)).trans HT6.out
          clear r0 r1 r2 r3 rf t0 t1 t2 t3 tf
          obtain ⟨r0, r1, r2, r3, rf⟩ := box_at hr7
          obtain ⟨t0, t1, t2, t3, tf⟩ := box_at ht7
          clear hr7 ht7
          have HM7 := Lib.hid (HM6.out.trans hm7); clear hm7
          have HP7 := Lib.hid (show Prs pb s (j + 2) w7 from hp7); clear hp7
          obtain ⟨j1, hj1e⟩ : ∃ j1, j1 = j + 2 := ⟨_, rfl⟩
          rw [← hj1e] at HKK HP7
          have hj1 : j1 ≤ s.size := by omega
          have hjj1 : j ≤ j1 := by omega
          clear hj1e hj2
          have hm7s := HM7.out.size
          have hw7 : Words B w7 := HW0.out.keep (fun b hb => (HM.out.trans HM7.out).same b (by omega) (by omega))
          have htm := IH.out m' (by omega) j1 w7 HP7.out hw7 hj1 (by omega)
          clear hw7
          unfold Termed at htm
          cases hpt : pterm m' (s.data.toList.drop j1) with
          | none =>
            rw [hpt] at htm HKK
            have HRES : Hid (pterm (n + 1) (s.data.toList.drop i) = none) := HKK.out.symm
            have HTM := Lib.hid htm; clear htm hpt
            go_wp2_with fail
            refine HTM.out.mono ?_
            rintro e w8 ⟨hm8, k, nm, so, A, l, c, rfl⟩
            have hr8 : w8.heap[w.heap.size]? = _ := ((HM7.out.trans hm8).same _ hrlt (by omega)).trans HRB.out
            have ht8 : w8.heap[tb]? = _ := ((HM7.out.trans hm8).same _ (by omega) (by omega)).trans HTB.out
            obtain ⟨r0, r1, r2, r3, rf⟩ := box_at hr8
            obtain ⟨t0, t1, t2, t3, tf⟩ := box_at ht8
            have hl1 := (Array.getElem?_eq_some_iff.1 hr8).1
            have hl2 := (Array.getElem?_eq_some_iff.1 ht8).1
            have HM8 := Lib.hid hm8; clear hm8 hr8 ht8
            go_wp2_with fail
            refine bodyPost_ret (v := .tuple #[.agg #[.int .i64 3, .string x, .int .i64 0, .slice Av its.length cv], .bool false]) ?_ rfl ?_
            · simp [results, Tryz.results121, go_sem, r0, r1, r2, r3, hl1]
            refine ⟨?_, ?_⟩
            · refine Moves.trans ?_ (Moves.of_below (below1 (Nat.le_refl _) _))
              iterate 4 refine Moves.setNew ?_ (by exact Nat.le_refl _) _
              exact (HM.out.trans HM7.out).trans HM8.out
            · rw [HRES.out]
              exact ⟨_, _, _, _, _, _, rfl⟩
          | some kr =>
            obtain ⟨k, r⟩ := kr
            rw [hpt] at htm HKK
            have HTM := Lib.hid htm; clear htm hpt
            go_wp2_with fail
            refine HTM.out.mono ?_
            rintro e w8 ⟨hm8, A8, c8, j8, rfl, hrep8, hd8, hj8, hjj8, hp8⟩
            have hr8 : w8.heap[w.heap.size]? = _ := ((HM7.out.trans hm8).same _ hrlt (by omega)).trans HRB.out
            have ht8 : w8.heap[tb]? = _ := ((HM7.out.trans hm8).same _ (by omega) (by omega)).trans HTB.out
            obtain ⟨t0, t1, t2, t3, tf⟩ := box_at ht8
            have hl1 := (Array.getElem?_eq_some_iff.1 hr8).1
            have hl2 := (Array.getElem?_eq_some_iff.1 ht8).1
            have hs8 := hm8.size
            have hrow8 : RowT w8 (tb + 1) (fun b => tb + 1 ≤ b) (.slice Av _ cv) _ := HR.out.keep (by omega) (fun b hb hF => (HM7.out.trans hm8).same b hb (by
              rcases hF with h | h
              · omega
              · have := (HR.out.lt b h).1; omega))
            have hown : ∀ b, (Value.slice Av _ cv).ownBlock = some b → b < wr.heap.size := fun b hb => (HR.out.lt b hb).2
            have hHK8 := HKK.out
            simp only [nextKid] at hHK8
            rw [← hd8] at hHK8
            have HK8 := Lib.hid hHK8; clear hHK8 hd8
            have HM8 := Lib.hid hm8; clear hm8
            have HR8 := Lib.hid hr8; clear hr8
            have HT8 := Lib.hid ht8; clear ht8
            have HP8 := Lib.hid hp8; clear hp8
            have HREP8 := Lib.hid hrep8; clear hrep8
            have HROW8 := Lib.hid hrow8; clear hrow8
            have hb10 : Below w8.heap.size w8 ((w8.alloc (.cells #[.int .i64 k.kind, .string k.name, .int .i64 k.sort, .slice A8 k.kids.length c8] 24)).alloc (.cells #[.int .i64 k.kind, .string k.name, .int .i64 k.sort, .slice A8 k.kids.length c8] 24)) :=
              (below1 (Nat.le_refl _) _).alloc (by simp) _
            have hsrc := heap_alloc_new (w8.alloc (.cells #[.int .i64 k.kind, .string k.name, .int .i64 k.sort, .slice A8 k.kids.length c8] 24)) (.cells #[.int .i64 k.kind, .string k.name, .int .i64 k.sort, .slice A8 k.kids.length c8] 24)
            rw [World.size_alloc] at hsrc
            obtain ⟨g, cap2, w9, hap, hrow9, hgr9, hbg9⟩ := (HROW8.out.below hb10).grow1 (by simp; omega) (k, A8, c8) (w8.heap.size + 1) 1 (0, 0) hsrc
              (RepP.mono (fun b ⟨h1, h2⟩ => ⟨by omega, by simp; omega, fun e => by have := hown b e; omega⟩) (fun q ⟨h1, h2⟩ => hb10.cell h2) _ _ _ HREP8.out) (by first | (simp; done) | (simp; omega) | omega)
            have hs9 : w8.heap.size + 2 ≤ w9.heap.size := by have := hgr9.size; simp at this; omega
            have hblk : ∀ b, b < tb + 1 → w9.heap[b]? = w8.heap[b]? := fun b hb => by
              rw [hgr9.block b (by simp; omega) (fun e => by have := (HROW8.out.lt b e.symm).1; omega)]
              exact hb10.block b (by omega)
            have ht9 : w9.heap[tb]? = _ := (hblk tb (by omega)).trans HT8.out
            obtain ⟨u0, u1, u2, u3', uf⟩ := box_at ht9
            have HT9 := Lib.hid ht9; clear ht9
            have hm9 : Moves pb w w9 := by
              have h := (HM.out.trans HM7.out).trans HM8.out
              exact ⟨by have := h.size; omega, fun b hb hne => (hblk b (by omega)).trans (h.same b hb hne), (hgr9.os.trans hb10.os).trans h.os, (hgr9.tape.trans hb10.tape).trans h.tape, (hgr9.output.trans hb10.output).trans h.output⟩
            have HM9 := Lib.hid hm9; clear hm9
            have HBLK := Lib.hid hblk; clear hblk
            have hrow9' := hrow9.setCell (p := ⟨tb, 3, none⟩) (by first | (simp; done) | (simp; omega)) (by show tb < tb + 1; omega) (.slice (some ⟨g, 0, none⟩) (its.length + 1) cap2)
            have HROW9 := Lib.hid hrow9'; clear hrow9' hrow9 hgr9
            simp only [Tm.val]
            go_wp2_with (at_builtin; refine wpList_run_append rfl _ _ rfl rfl rfl hap ?_)
            go_roundw
            case rel =>
              refine ⟨m', j8, _, its ++ [(k, A8, c8)], (by rw [List.map_append]; exact HK8.out), by omega, by omega, hj8, by omega, ?_, ?_, ?_, heap_set3 HT9.out, HROW9.out, ?_⟩
              · refine HP8.out.keep ?_
                rw [Below.heap_setCell _ _ _ _ (by show pb ≠ tb; omega)]; exact HBLK.out pb (by omega)
              · refine Moves.setNew HM9.out (by show w.heap.size ≤ tb; omega) _
              · rw [Below.heap_setCell _ _ _ _ (by show w.heap.size ≠ tb; omega), HBLK.out _ (by omega)]; exact HR8.out
              · simp; omega
            case measure =>
              have h2 := HP.out.cells.2.1
              have h3 : (w9.setCell ⟨tb, 3, none⟩ (.slice (some ⟨g, 0, none⟩) (its.length + 1) cap2)).cell? ⟨pb, 1, none⟩ = some (.int .i64 j8) := by
                rw [World.cell?_setCell_other _ _ _ _ (fun e => by injection e with e; omega), World.cell?_of_block (HBLK.out pb (by omega))]
                exact HP8.out.cells.2.1
              rw [h2, h3]
              simp [intOf]
              omega
end Go.Proofs.YtipmibjhlpnhjaaGreatDoor
namespace Go.Proofs.YtipmibjhlpnhjaaGreatDoor
theorem sizes_append : ∀ a b : List Tm, Tm.sizes (a ++ b) = Tm.sizes a + Tm.sizes b
  | [], b => by simp [Tm.sizes]
  | t :: a, b => by simp only [List.cons_append, Tm.sizes, sizes_append a b]; omega
theorem wlen_le (l : List UInt8) : wlen l ≤ l.length := (List.takeWhile_prefix _).length_le
theorem psize : ∀ n, (∀ l t r, pterm n l = some (t, r) → t.size + r.length ≤ l.length) ∧ (∀ w acc l t r, pkids n w acc l = some (t, r) → t.size + r.length ≤ 1 + Tm.sizes acc + l.length)
  | 0 => ⟨fun l t r h => by simp [pterm] at h, fun w acc l t r h => by simp [pkids] at h⟩
  | n + 1 => by
    obtain ⟨ih1, ih2⟩ := psize n
    have leaf : ∀ (k : Int) (x : ByteArray) (so : Int), (Tm.mk k x so []).size = 1 := fun k x so => by simp [Tm.size, Tm.sizes]
    constructor
    · intro l t r h
      rw [pterm] at h
      by_cases hv : Lib.hasPrefix l [63] = true
      · rw [if_pos hv] at h
        by_cases hn : nameL ((l.drop 1).takeWhile partB) = false
        · rw [if_pos hn] at h; cases h
        · rw [if_neg hn, if_pos hv] at h
          have hw := wlen_pos (l := l.drop 1) (by simpa using hn)
          have hle := wlen_le (l.drop 1)
          rw [List.length_drop] at hle
          unfold pvar at h
          split at h
          · split at h
            · injection h with h; injection h with h1 h2; subst h1 h2
              rw [leaf]; simp only [List.length_drop]; omega
            · cases h
          · injection h with h; injection h with h1 h2; subst h1 h2
            rw [leaf]; simp only [List.length_drop]; omega
      · rw [if_neg hv] at h
        by_cases hn : nameL (l.takeWhile partB) = false
        · rw [if_pos hn] at h; cases h
        · rw [if_neg hn, if_neg hv] at h
          have hw := wlen_pos (l := l) (by simpa using hn)
          have hle := wlen_le l
          by_cases hp : Lib.hasPrefix (l.drop (wlen l)) [40] = false
          · rw [if_pos hp] at h
            unfold patom at h
            split at h
            · injection h with h; injection h with h1 h2; subst h1 h2
              rw [leaf]; simp only [List.length_drop]; omega
            · cases h
          · rw [if_neg hp] at h
            have hp' : Lib.hasPrefix (l.drop (wlen l)) [40] = true := by simpa using hp
            have hne : 0 < (l.drop (wlen l)).length := by
              cases e : l.drop (wlen l) with
              | nil => rw [e] at hp'; simp [Lib.hasPrefix] at hp'
              | cons _ _ => simp
            have := ih2 _ _ _ _ _ h
            simp only [List.length_drop, Tm.sizes] at this hne
            omega
    · intro w acc l t r h
      rw [pkids] at h
      split at h
      · injection h with h; injection h with h1 h2; subst h1 h2
        rw [Tm.size]; simp only [List.length_drop]; omega
      · split at h
        · cases h
        · split at h
          · cases h
          · rename_i k r' hk
            have h1 := ih1 _ _ _ hk
            have h2 := ih2 _ _ _ _ _ h
            rw [sizes_append] at h2
            have hle : (if acc ≠ [] then l.drop 2 else l).length ≤ l.length := by split <;> simp
            simp only [Tm.sizes] at h2
            omega
end Go.Proofs.YtipmibjhlpnhjaaGreatDoor
namespace Go.Proofs.YtipmibjhlpnhjaaGreatDoor
open Go.RowKit Go.Sort

theorem term_any (B pb : Nat) (hB : B ≤ pb) (s : ByteArray) (hs : s.size ≤ 1000000) : ∀ n m, m ≤ n → ∀ i w, Prs pb s i w → Words B w → i ≤ s.size → 2 * (s.size - i) + 1 ≤ m →
    Calls Tryz.prog 121 #[.pointer (some ⟨pb, 0, none⟩)] w (Termed pb s i m w) := by
  intro n
  induction n with
  | zero => intro m hm i w _ _ _ h; omega
  | succ n ih =>
    intro m hm i w hp hw hi hf
    obtain ⟨m', rfl⟩ : ∃ m', m = m' + 1 := ⟨m - 1, by omega⟩
    cases hv : Lib.hasPrefix (s.data.toList.drop i) [63] with
    | true =>
      cases hg : nameL (((s.data.toList.drop i).drop 1).takeWhile partB) with
      | true => exact term_var B pb hB s i m' w hp hw hi hs hv hg
      | false => exact term_bad pb s i m' w hp hi hs (by rw [hv]; exact hg)
    | false =>
      cases hg : nameL ((s.data.toList.drop i).takeWhile partB) with
      | false => exact term_bad pb s i m' w hp hi hs (by rw [hv]; exact hg)
      | true =>
        cases hpar : Lib.hasPrefix ((s.data.toList.drop i).drop (wlen (s.data.toList.drop i))) [40] with
        | false => exact term_atom B pb hB s i m' w hp hw hi hs hv hg hpar
        | true => exact term_app B pb hB s i m' w hp hw hi hs hv hg hpar (fun k hk i w => ih k (by omega) i w) hf

/-- the term with a text, or the error -/
def parseE (l : List UInt8) : Tm × Int :=
  match pterm (2 * l.length + 1) l with
  | some (t, []) => if t.valid = 0 then (t, 0) else (.mk 0 ⟨#[]⟩ 0 [], t.valid)
  | _ => (.mk 0 ⟨#[]⟩ 0 [], 2)
def Parsed (l : List UInt8) (w : World) (e : Ending) (w' : World) : Prop :=
  ∃ A cap, e = .returned (.tuple #[(parseE l).1.val A cap, .int .i64 (parseE l).2]) ∧ RepP w' (fun b => w.heap.size ≤ b ∧ b < w'.heap.size) (parseE l).1 A cap ∧ Below w.heap.size w w'

set_option maxHeartbeats 4000000 in
set_option maxRecDepth 100000 in
theorem parse_any (s : ByteArray) (w : World) (hs : s.size ≤ 1000000) (hw : Words w.heap.size w) :
    Calls Tryz.prog 75 #[.string s] w (Parsed s.data.toList w) := by
  obtain ⟨W1, hW1⟩ : ∃ W1, W1 = w.alloc (.cells #[.int .i64 0, .string ⟨#[]⟩, .int .i64 0, .slice none 0 0] 24) := ⟨_, rfl⟩
  obtain ⟨W2, hW2⟩ : ∃ W2, W2 = W1.alloc (.cells #[.string s, .int .i64 0] 142) := ⟨_, rfl⟩
  have s1 : W1.heap.size = w.heap.size + 1 := by rw [hW1]; simp
  have b1 : Below w.heap.size w W1 := by rw [hW1]; exact below1 (Nat.le_refl _) _
  have b2 : Below W1.heap.size W1 W2 := by rw [hW2]; exact below1 (Nat.le_refl _) _
  have hb : Below w.heap.size w W2 := b1.trans (b2.mono (by omega))
  have hp : Prs (w.heap.size + 1) s 0 W2 := by unfold Prs; rw [hW2, ← s1]; exact heap_alloc_new _ _
  have hw2 : Words w.heap.size W2 := hw.keep (fun b h => hb.block b h)
  have hr : W2.heap[w.heap.size]? = some (.cells #[.int .i64 0, .string ⟨#[]⟩, .int .i64 0, .slice none 0 0] 24 (0, 0)) := by
    rw [b2.block _ (by omega), hW1]; exact heap_alloc_new _ _
  have hT := term_any w.heap.size (w.heap.size + 1) (by omega) s hs (2 * s.size + 1) (2 * s.size + 1) (Nat.le_refl _) 0 W2 hp hw2 (Nat.zero_le _) (by omega)
  have HT := Lib.hid hT; clear hT hw2
  have HR := Lib.hid hr; clear hr
  have HB := Lib.hid hb; clear hb
  go_enter Tryz.func75, Tryz.ntmps75
  go_wp2_with fail
  rw [← hW1, ← hW2]
  have hsl := size_list s
  have HSL := Lib.hid hsl; clear hsl
  have hlt : w.heap.size < W2.heap.size := (Array.getElem?_eq_some_iff.1 HR.out).1
  have hs2 : W2.heap.size = w.heap.size + 1 + 1 := by rw [hW2]; simp [s1]
  clear hW1 hW2 s1 b1 b2 hp
  unfold Termed at HT
  rw [List.drop_zero] at HT
  have bad : ∀ W w5 : World, Moves (w.heap.size + 1) W2 w5 → Hid (Below w.heap.size w w5) := fun _ w5 hm =>
    ⟨hm.os.trans HB.out.os, hm.tape.trans HB.out.tape, hm.output.trans HB.out.output, Nat.le_trans HB.out.size hm.size, fun b hb => (hm.same b (by omega) (by omega)).trans (HB.out.block b hb)⟩
  cases hpt : pterm (2 * s.size + 1) s.data.toList with
  | none =>
    have HE : Hid (parseE s.data.toList = (.mk 0 ⟨#[]⟩ 0 [], 2)) := by unfold parseE; rw [← size_list, hpt]; exact rfl
    rw [hpt] at HT
    clear hpt
    refine HT.out.mono ?_
    rintro e w5 ⟨hm, k, nm, so, A, l, c, rfl⟩
    have HBB := bad w w5 hm
    have hr5 : w5.heap[w.heap.size]? = _ := (hm.same _ hlt (by omega)).trans HR.out
    obtain ⟨r0, r1, r2, r3, rf⟩ := box_at hr5
    have hl1 := (Array.getElem?_eq_some_iff.1 hr5).1
    clear hr5 hm
    go_wp2_with fail
    refine bodyPost_ret (v := .tuple #[.agg #[.int .i64 0, .string ⟨#[]⟩, .int .i64 0, .slice none 0 0], .int .i64 2]) ?_ rfl ?_
    · simp [results, Tryz.results75, go_sem, r0, r1, r2, r3, hl1]
    unfold Parsed
    rw [HE.out]
    refine ⟨none, 0, rfl, rep_leaf _ _ _ (Nat.zero_le _), ?_⟩
    refine Below.alloc ?_ (by simp [World.setCell]; omega) _
    iterate 4 refine Below.setCell ?_ (by exact Nat.le_refl _) _
    exact HBB.out
  | some tr =>
    obtain ⟨t, r⟩ := tr
    have hsize := (psize _).1 _ _ _ hpt
    have HE : Hid (parseE s.data.toList = match (some (t, r) : Option (Tm × List UInt8)) with | some (t, []) => if t.valid = 0 then (t, 0) else (.mk 0 ⟨#[]⟩ 0 [], t.valid) | _ => (.mk 0 ⟨#[]⟩ 0 [], 2)) := by unfold parseE; rw [← size_list, hpt]; exact rfl
    rw [hpt] at HT
    clear hpt
    refine HT.out.mono ?_
    rintro e w5 ⟨hm, A, cap, j, rfl, hrep, hd, hj, _, hp⟩
    have HBB := bad w w5 hm
    have hr5 : w5.heap[w.heap.size]? = _ := (hm.same _ hlt (by omega)).trans HR.out
    obtain ⟨r0, r1, r2, r3, rf⟩ := box_at hr5
    have hl1 := (Array.getElem?_eq_some_iff.1 hr5).1
    have hsm := hm.size
    have HR5 := Lib.hid hr5; clear hr5 hm
    have z1 : ∀ o, (w5.alloc o).cell? ⟨w.heap.size + 1, 1, none⟩ = some (.int .i64 j) := fun o => by rw [(below1 (Nat.le_refl _) o).cell (by show w.heap.size + 1 < _; omega)]; exact hp.cells.2.1
    have HREP := Lib.hid hrep; clear hrep hp
    simp only [Tm.val]
    by_cases hjs : j < s.size
    · have hne : r ≠ [] := fun e => by
        rw [e] at hd
        have := congrArg List.length hd
        rw [List.length_drop, ← size_list] at this
        simp at this; omega
      have HE2 : Hid (parseE s.data.toList = (.mk 0 ⟨#[]⟩ 0 [], 2)) := by
        rw [HE.out]
        match r, hne with
        | _ :: _, _ => exact rfl
      clear hne hd
      go_wp2_with fail
      refine bodyPost_ret (v := .tuple #[.agg #[.int .i64 0, .string ⟨#[]⟩, .int .i64 0, .slice none 0 0], .int .i64 2]) ?_ rfl ?_
      · simp [results, Tryz.results75, go_sem, r0, r1, r2, r3, hl1]
      unfold Parsed
      rw [HE2.out]
      refine ⟨none, 0, rfl, rep_leaf _ _ _ (Nat.zero_le _), ?_⟩
      refine Below.alloc ?_ (by simp [World.setCell]; omega) _
      iterate 4 refine Below.setCell ?_ (by exact Nat.le_refl _) _
      exact HBB.out
    · have hr0 : r = [] := by rw [← hd]; exact List.drop_eq_nil_of_le (by rw [← size_list]; omega)
      subst hr0
      rw [← size_list] at hsize
      have hb6 : ∀ o, Below w5.heap.size w5 (w5.alloc o) := fun o => below1 (Nat.le_refl _) o
      have hV := valid_any t A cap (w5.alloc (.cells #[.int .i64 t.kind, .string t.name, .int .i64 t.sort, .slice A t.kids.length cap] 24)) (by omega)
        (RepP.mono (fun b ⟨_, h2⟩ => by simp; omega) (fun q ⟨_, h2⟩ => (hb6 _).cell h2) _ _ _ HREP.out)
      have hbx := heap_alloc_new w5 (.cells #[.int .i64 t.kind, .string t.name, .int .i64 t.sort, .slice A t.kids.length cap] 24)
      have HV := Lib.hid hV; clear hV hd
      simp only [Tm.val] at HV
      clear r0 r1 r2 r3 rf
      go_wp2_with fail
      refine HV.out.mono ?_
      rintro e w7 ⟨rfl, hl⟩
      have hls := hl.size
      rw [World.size_alloc] at hls
      have hr7 : w7.heap[w.heap.size]? = _ := (hl.below.block _ (by rw [World.size_alloc]; omega)).trans (((hb6 _).block _ hl1).trans HR5.out)
      have ht7 : w7.heap[w5.heap.size]? = _ := (hl.below.block _ (by rw [World.size_alloc]; omega)).trans hbx
      obtain ⟨r0, r1, r2, r3, rf⟩ := box_at hr7
      obtain ⟨t0, t1, t2, t3, tf⟩ := box_at ht7
      have HB7 : Hid (Below w.heap.size w w7) := HBB.out.trans (((hb6 _).trans (hl.below.mono (by simp))).mono (by omega))
      have HL := Lib.hid hl; clear hl hr7 ht7 hbx
      have hwne : w5.heap.size ≠ w.heap.size := by omega
      by_cases hv0 : t.valid = 0
      · have HE2 : Hid (parseE s.data.toList = (t, 0)) := by rw [HE.out]; exact if_pos hv0
        go_wp2_with fail
        refine bodyPost_ret (v := .tuple #[.agg #[.int .i64 t.kind, .string t.name, .int .i64 t.sort, .slice A t.kids.length cap], .int .i64 0]) ?_ rfl ?_
        · simp [results, Tryz.results75, go_sem, r0, r1, r2, r3]
        unfold Parsed
        rw [HE2.out]
        refine ⟨A, cap, rfl, ?_, ?_⟩
        · refine RepP.mono ?_ ?_ _ _ _ HREP.out
          · rintro b ⟨h1, h2⟩; exact ⟨by omega, by simp [World.setCell]; omega⟩
          · rintro q ⟨h1, h2⟩
            have hne : ∀ o, (⟨w.heap.size, o, none⟩ : Addr) ≠ q := fun o e => by rw [← e] at h1; simp at h1; omega
            rw [World.cell?_setCell_other _ _ _ _ (hne _), World.cell?_setCell_other _ _ _ _ (hne _), World.cell?_setCell_other _ _ _ _ (hne _), World.cell?_setCell_other _ _ _ _ (hne _)]
            exact (World.cell?_of_block (HL.out.below.block _ (by rw [World.size_alloc]; omega))).trans ((hb6 _).cell h2)
        · iterate 4 refine Below.setCell ?_ (by exact Nat.le_refl _) _
          exact HB7.out
      · have hvb : (t.valid != 0) = true := by simpa using hv0
        have HE2 : Hid (parseE s.data.toList = (.mk 0 ⟨#[]⟩ 0 [], t.valid)) := by rw [HE.out]; exact if_neg hv0
        clear hv0
        go_wp2_with fail
        refine bodyPost_ret (v := .tuple #[.agg #[.int .i64 0, .string ⟨#[]⟩, .int .i64 0, .slice none 0 0], .int .i64 t.valid]) ?_ rfl ?_
        · simp [results, Tryz.results75, go_sem, r0, r1, r2, r3]
        unfold Parsed
        rw [HE2.out]
        refine ⟨none, 0, rfl, rep_leaf _ _ _ (Nat.zero_le _), ?_⟩
        iterate 4 refine Below.setCell ?_ (by exact Nat.le_refl _) _
        exact HB7.out
end Go.Proofs.YtipmibjhlpnhjaaGreatDoor
