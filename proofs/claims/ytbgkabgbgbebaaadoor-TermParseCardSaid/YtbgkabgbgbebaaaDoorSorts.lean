/- The parser: the sort behind a colon. -/
import Derived.Test.YtbgkabgbgbebaaaDoorTake
namespace Go.Proofs.YtbgkabgbgbebaaaDoor
open Go.RowKit Go.Sort

/-- the words of the sorts, in order -/
def wordList : List ByteArray := [⟨#[97, 110, 121]⟩, ⟨#[97, 103, 101, 110, 116]⟩, ⟨#[110, 111, 110, 99, 101]⟩, ⟨#[107, 101, 121]⟩, ⟨#[100, 97, 116, 97]⟩, ⟨#[116, 97, 103]⟩]
/-- the package's variable with the words, in blocks below B -/
def Words (B : Nat) (w : World) : Prop := ∃ wb wo c, 0 < B ∧ wb < B ∧ w.cell? ⟨0, 0, none⟩ = some (.slice (some ⟨wb, wo, none⟩) 6 c) ∧ ∀ j, j < 6 → w.cell? ⟨wb, wo + j, none⟩ = some (.string (wordList.getD j ByteArray.empty))
theorem Words.keep {B : Nat} {w w' : World} (h : Words B w) (hb : ∀ b, b < B → w'.heap[b]? = w.heap[b]?) : Words B w' := by
  obtain ⟨wb, wo, c, h0, h1, h2, h3⟩ := h
  exact ⟨wb, wo, c, h0, h1, by rw [World.cell?_of_block (hb _ h0)]; exact h2, fun j hj => by rw [World.cell?_of_block (hb _ h1)]; exact h3 j hj⟩
theorem Words.up {B B' : Nat} {w : World} (h : Words B w) (hb : B ≤ B') : Words B' w := by
  obtain ⟨wb, wo, c, h0, h1, h⟩ := h
  exact ⟨wb, wo, c, by omega, by omega, h⟩
/-- the number of a sort's word, or -1 -/
def sortOf (l : List UInt8) : Int := Lib.idxOfS wordList ⟨l.toArray⟩

/-- what sort reads: the number, whether it will do, and how many bytes -/
def sorts (least : Int) : List UInt8 → Int × Bool × Nat
  | 58 :: r => (sortOf (r.takeWhile partB), decide (least ≤ sortOf (r.takeWhile partB)), 1 + wlen r)
  | _ => (0, false, 0)
theorem sorts_colon (least : Int) (r : List UInt8) : sorts least (58 :: r) = (sortOf (r.takeWhile partB), decide (least ≤ sortOf (r.takeWhile partB)), 1 + wlen r) := rfl
theorem sorts_no (least : Int) (l : List UInt8) (h : Lib.hasPrefix l [58] = false) : sorts least l = (0, false, 0) := by
  unfold sorts
  split
  · simp [Lib.hasPrefix] at h
  · rfl
theorem prefix_colon {l : List UInt8} (h : Lib.hasPrefix l [58] = true) : ∃ r, l = 58 :: r := by
  match l, h with
  | [], h => simp [Lib.hasPrefix] at h
  | b :: r, h => simp [Lib.hasPrefix] at h; exact ⟨r, by rw [h]⟩


theorem word_end (s : ByteArray) (i k : Nat) (hik : i ≤ k) (hks : k ≤ s.size) (h1 : ∀ j, (h : j < s.data.toList.length) → i ≤ j → j < k → partB s.data.toList[j] = true)
    (h2 : ∀ h : k < s.size, partB (s.data.toList[k]'(by rw [← size_list]; exact h)) = false) :
    (s.extract i k).data.toList = (s.data.toList.drop i).takeWhile partB ∧ i + wlen (s.data.toList.drop i) = k := by
  have hsl := size_list s
  obtain ⟨e1, _⟩ := takeWhile_eq (s.data.toList.drop i) (k - i) (by rw [List.length_drop, ← hsl]; omega)
    (fun j hj hjk => by rw [List.getElem_drop]; exact h1 _ _ (by omega) (by omega)) (fun h => by
      rw [List.getElem_drop]
      have hk : k < s.size := by rw [List.length_drop, ← hsl] at h; omega
      have := h2 hk
      rw [← this]; congr 2; omega)
  refine ⟨by rw [extract_list, e1], ?_⟩
  unfold wlen; rw [e1, List.length_take, List.length_drop, ← hsl]; omega
theorem bytes_of_list (x : ByteArray) : x = ⟨x.data.toList.toArray⟩ := by cases x; simp

set_option maxHeartbeats 2000000 in
theorem sort_of_any (B pb : Nat) (hB : B ≤ pb) (s : ByteArray) (i : Nat) (least : Int) (w : World) (hp : Prs pb s i w) (hw : Words B w) (hi : i ≤ s.size) (hs : s.size ≤ 1000000000) :
    Calls Tryd.prog 79 #[.pointer (some ⟨pb, 0, none⟩), .int .i64 least] w fun e w' => e = .returned (.tuple #[.int .i64 (sorts least (s.data.toList.drop i)).1, .bool (sorts least (s.data.toList.drop i)).2.1]) ∧
      Moves pb w w' ∧ Prs pb s (i + (sorts least (s.data.toList.drop i)).2.2) w' ∧ i + (sorts least (s.data.toList.drop i)).2.2 ≤ s.size := by
  have mixed : Tryd.prog.follows .mixedOrders = true := by kernel_rfl
  have htk := take_any pb s ⟨#[58]⟩ i w hp hi hs (by decide)
  have hlt : pb < w.heap.size := (Array.getElem?_eq_some_iff.1 hp).1
  have hsl := size_list s
  cases hpre : Lib.hasPrefix (s.data.toList.drop i) [58] with
  | false =>
    have HS := Lib.hid (sorts_no least _ hpre)
    rw [show (⟨#[58]⟩ : ByteArray).data.toList = [58] from rfl, hpre] at htk
    have HT := Lib.hid htk; clear htk hp hpre hw
    go_enter Tryd.func79, Tryd.ntmps79
    go_wp2_with fail
    refine HT.out.mono ?_
    rintro e w1 ⟨rfl, hm, hp1⟩
    have HM := Lib.hid hm; clear hm
    have HP1 := Lib.hid hp1; clear hp1
    go_wp2_with fail
    go_ret2
    rw [HS.out]
    exact ⟨rfl, HM.out, HP1.out, hi⟩
  | true =>
    obtain ⟨r, hr⟩ := prefix_colon hpre
    have HS := Lib.hid (show sorts least (s.data.toList.drop i) = (sortOf (r.takeWhile partB), decide (least ≤ sortOf (r.takeWhile partB)), 1 + wlen r) from by rw [hr]; exact sorts_colon least r)
    rw [show (⟨#[58]⟩ : ByteArray).data.toList = [58] from rfl, hpre] at htk
    have hil : i < s.size := by
      have := congrArg List.length hr
      rw [List.length_drop, List.length_cons, ← hsl] at this; omega
    have hr1 : s.data.toList.drop (i + 1) = r := by rw [← List.drop_drop, hr]; rfl
    have HR1 := Lib.hid hr1; clear hr1 hr hpre
    have HT := Lib.hid htk; clear htk hp
    have HW := Lib.hid hw; clear hw
    have PA := Lib.hid part_any
    have HAT : Hid (∀ k, (h : k < s.size) → s[k] = s.data.toList[k]'(by rw [← size_list]; exact h)) := fun k h => rfl
    have HSL := Lib.hid hsl; clear hsl
    go_enter Tryd.func79, Tryd.ntmps79
    go_wp2_with fail
    refine HT.out.mono ?_
    rintro e w1 ⟨rfl, hm, hp1⟩
    have hp1' : Prs pb s (i + 1) w1 := hp1
    have hw1 : Words B w1 := HW.out.keep (fun b hb => hm.same b (by omega) (by omega))
    obtain ⟨c0, c1, c2⟩ := hp1'.cells
    have HM := Lib.hid hm; clear hm
    have HP1 := Lib.hid hp1'; clear hp1 hp1'
    have HW1 := Lib.hid hw1; clear hw1
    go_wp2_with fail
    go_loopw [20] (fun _ wr => ∃ k : Nat, i + 1 ≤ k ∧ k ≤ s.size ∧ Hid (Prs pb s k wr) ∧ Hid (Moves pb w1 wr) ∧ Hid (∀ j, (h : j < s.data.toList.length) → i + 1 ≤ j → j < k → partB s.data.toList[j] = true))
      (fun _ wr => s.size - (intOf ((wr.cell? ⟨pb, 1, none⟩).getD undef)).toNat)
    case atStart => exact ⟨i + 1, Nat.le_refl _, hil, HP1.out, Moves.refl _ _, fun j _ h1 h2 => by omega⟩
    case round =>
      obtain ⟨k, hik, hks, HP, HMV, HA⟩ := hrel
      obtain ⟨d0, d1, d2⟩ := HP.out.cells
      have i1 : (0 : Int) ≤ (k : Int) := Int.natCast_nonneg _
      have i3 : (i : Int) + 1 ≤ (k : Int) := by omega
      have i4 : (k : Int) ≤ (s.size : Int) := by omega
      have i5 : ((i : Int) + 1).toNat = i + 1 := by omega
      have HWR : Hid (Words B wr) := HW1.out.keep (fun b hb => HMV.out.same b (by have := (Array.getElem?_eq_some_iff.1 HP1.out).1; omega) (by omega))
      by_cases hk : k < s.size
      · have hd : decide ((k : Int) < (s.size : Int)) = true := decide_eq_true (by omega)
        have hat := HAT.out k hk
        obtain ⟨b, hb⟩ : ∃ b, b = s.data.toList[k]'(by rw [← HSL.out]; exact hk) := ⟨_, rfl⟩
        rw [← hb] at hat
        have HB := Lib.hid hb; clear hb
        cases hpb : partI (b.toNat : Int) with
        | true =>
          have PB : Hid (∀ X, Calls Tryd.prog 87 #[.int .u8 b.toNat] X fun e w' => e = .returned (.bool true) ∧ w' = X) := fun X => by have := PA.out b.toNat X; rwa [hpb] at this
          have HPB := Lib.hid hpb; clear hpb
          go_wp2_with fail
          go_quiet ((go_at_call 87; exact Calls.quiet_of_same (PB.out _)))
          go_wp2_with fail
          go_roundw
          case rel =>
            have h := Prs.set (n := k + 1) (show Prs pb s k (wr.drewN nq) from HP.out)
            rw [Int.natCast_add] at h
            refine ⟨k + 1, by omega, by omega, h, HMV.out.trans ((Moves.of_below ((Lay.refl _ _).drewN nq).below).trans (Moves.set _ _)), fun j hj h1 h2 => ?_⟩
            by_cases e : j = k
            · subst e; unfold partB; rw [← HB.out]; exact HPB.out
            · exact HA.out j hj h1 (by omega)
          case measure =>
            have h := (Prs.set (n := k + 1) (show Prs pb s k (wr.drewN nq) from HP.out)).cells.2.1
            rw [Int.natCast_add] at h
            have h2 := HP.out.cells.2.1
            have h3 : ((wr.drewN nq).setCell ⟨pb, 1, none⟩ (.int .i64 ((k : Int) + 1))).cell? ⟨pb, 1, none⟩ = some (.int .i64 ((k : Int) + 1)) := h
            rw [h2, h3]
            simp [intOf]
            omega
        | false =>
          have PB : Hid (∀ X, Calls Tryd.prog 87 #[.int .u8 b.toNat] X fun e w' => e = .returned (.bool false) ∧ w' = X) := fun X => by have := PA.out b.toNat X; rwa [hpb] at this
          have HPB := Lib.hid hpb; clear hpb
          have HE := Lib.hid (word_end s (i + 1) k hik hks HA.out (fun h => by unfold partB; have := HB.out; rw [← this]; exact HPB.out))
          go_wp2_with fail
          go_quiet ((go_at_call 87; exact Calls.quiet_of_same (PB.out _)))
          go_wp2_with fail
          have hPZ : Prs pb s k (wr.drewN nq) := HP.out
          have hMZ : Moves pb w (wr.drewN nq) := HM.out.trans (HMV.out.trans (Moves.of_below ((Lay.refl _ _).drewN _).below))
          have hWZ : Words B (wr.drewN nq) := HWR.out.keep (fun _ _ => rfl)
          obtain ⟨z0, z1, z2⟩ := hPZ.cells
          obtain ⟨wb, wo, wc, _, _, y0, y1⟩ := hWZ
          have HPZ := Lib.hid hPZ; clear hPZ
          have HMZ := Lib.hid hMZ; clear hMZ
          generalize wr.drewN nq = Z at *
          have hX := fun X (hX : ∀ j, j < 6 → X.cell? ⟨wb, wo + j, none⟩ = some (.string (wordList.getD j ByteArray.empty))) => Tryd.slices_Index_string wb wo 6 wc wordList (s.extract (i + 1) k) X (by decide) (by decide) hX
          have hid : Lib.idxOfS (wordList.take 6) (s.extract (i + 1) k) = sortOf (r.takeWhile partB) := by
            have e := HE.out.1
            rw [HR1.out] at e
            rw [bytes_of_list (s.extract (i + 1) k), e]
            exact rfl
          rw [hid] at hX
          have HX := Lib.hid hX; clear hX hid
          have HY := Lib.hid y1; clear y1
          have HK : Hid (i + (1 + wlen r) = k) := by have h := HE.out.2; rw [HR1.out] at h; show i + (1 + wlen r) = k; omega
          generalize sortOf (r.takeWhile partB) = q at *
          go_quiet ((go_at_call 89; exact Calls.quiet_of_same (HX.out _ HY.out)))
          go_wp2_with fail
          go_ret2
          rw [HS.out]
          exact ⟨rfl, HMZ.out.trans (Moves.of_below ((Lay.refl _ _).drewN _).below), by show Prs pb s (i + (1 + wlen r)) _; rw [HK.out]; exact HPZ.out, by show i + (1 + wlen r) ≤ _; rw [HK.out]; exact hks⟩
      · have hd : decide ((k : Int) < (s.size : Int)) = false := decide_eq_false (by omega)
        have HE := Lib.hid (word_end s (i + 1) k hik hks HA.out (fun h => absurd h hk))
        go_wp2_with fail
        go_quiet (fail)
        go_wp2_with fail
        have hPZ : Prs pb s k (wr.drewN nq) := HP.out
        have hMZ : Moves pb w (wr.drewN nq) := HM.out.trans (HMV.out.trans (Moves.of_below ((Lay.refl _ _).drewN _).below))
        have hWZ : Words B (wr.drewN nq) := HWR.out.keep (fun _ _ => rfl)
        obtain ⟨z0, z1, z2⟩ := hPZ.cells
        obtain ⟨wb, wo, wc, _, _, y0, y1⟩ := hWZ
        have HPZ := Lib.hid hPZ; clear hPZ
        have HMZ := Lib.hid hMZ; clear hMZ
        generalize wr.drewN nq = Z at *
        have hX := fun X (hX : ∀ j, j < 6 → X.cell? ⟨wb, wo + j, none⟩ = some (.string (wordList.getD j ByteArray.empty))) => Tryd.slices_Index_string wb wo 6 wc wordList (s.extract (i + 1) k) X (by decide) (by decide) hX
        have hid : Lib.idxOfS (wordList.take 6) (s.extract (i + 1) k) = sortOf (r.takeWhile partB) := by
          have e := HE.out.1
          rw [HR1.out] at e
          rw [bytes_of_list (s.extract (i + 1) k), e]
          exact rfl
        rw [hid] at hX
        have HX := Lib.hid hX; clear hX hid
        have HY := Lib.hid y1; clear y1
        have HK : Hid (i + (1 + wlen r) = k) := by have h := HE.out.2; rw [HR1.out] at h; show i + (1 + wlen r) = k; omega
        generalize sortOf (r.takeWhile partB) = q at *
        go_quiet ((go_at_call 89; exact Calls.quiet_of_same (HX.out _ HY.out)))
        go_wp2_with fail
        go_ret2
        rw [HS.out]
        exact ⟨rfl, HMZ.out.trans (Moves.of_below ((Lay.refl _ _).drewN _).below), by show Prs pb s (i + (1 + wlen r)) _; rw [HK.out]; exact HPZ.out, by show i + (1 + wlen r) ≤ _; rw [HK.out]; exact hks⟩
end Go.Proofs.YtbgkabgbgbebaaaDoor
