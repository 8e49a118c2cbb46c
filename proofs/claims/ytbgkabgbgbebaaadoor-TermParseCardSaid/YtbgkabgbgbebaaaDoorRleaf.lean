/- The reference's leaf. -/
import Derived.BigRegion
import Derived.Test.YtbgkabgbgbebaaaDoorRplain
import Derived.Test.YtbgkabgbgbebaaaDoorRtext
import Derived.Test.YtbgkabgbgbebaaaDoorRname
namespace Go.Proofs.YtbgkabgbgbebaaaDoor
open Go.RowKit Go.Sort

/-- what the reference's readers give back: a term in new memory and the rest, or false -/
def Leafed (o : Option (Tm × List UInt8)) (w : World) (e : Ending) (w' : World) : Prop :=
  Below w.heap.size w w' ∧ match o with
    | none => ∃ k nm so A l c s', e = .returned (.tuple #[.agg #[.int .i64 k, .string nm, .int .i64 so, .slice A l c], .string s', .bool false])
    | some (t, r) => ∃ A cap s', e = .returned (.tuple #[t.val A cap, .string s', .bool true]) ∧ RepP w' (fun b => w.heap.size ≤ b ∧ b < w'.heap.size) t A cap ∧ s'.data.toList = r

theorem first_byte {s : ByteArray} {b : UInt8} {r : List UInt8} (h : s.data.toList = b :: r) : ∃ h0 : 0 < s.size, s[0] = b := by
  have hs := size_list s
  rw [h] at hs
  refine ⟨by rw [hs]; simp, ?_⟩
  have : s[0]'(by rw [hs]; simp) = s.data.toList[0]'(by rw [h]; simp) := rfl
  rw [this]; simp only [h, List.getElem_cons_zero]

theorem byte_ne {b : UInt8} (c : UInt8) (n : Int) (hn : n = c.toNat) (h : b ≠ c) : ((b.toNat : Int) == n) = false ∧ ((b.toNat : Int) != n) = true := by
  have : ((b.toNat : Int) == n) = false := by
    rw [beq_eq_false_iff_ne, hn]
    intro e
    exact h (UInt8.toNat.inj (by omega))
  exact ⟨this, by unfold bne; rw [this]; rfl⟩

theorem setFour_below {B b : Nat} {u w : World} {x y z v : Value} (h : Below B u w) (hB : B ≤ b) : Below B u ((((w.setCell ⟨b, 0, none⟩ x).setCell ⟨b, 1, none⟩ y).setCell ⟨b, 2, none⟩ z).setCell ⟨b, 3, none⟩ v) := by
  iterate 4 refine Below.setCell ?_ (by exact hB) _
  exact h

set_option maxHeartbeats 4000000 in
set_option maxRecDepth 100000 in
theorem leaf_none (tk : Int) (hk : tk = 1 ∨ tk = 2) (nm : ByteArray) (hnm : nm.size ≤ 24) (s : ByteArray) (hs : s.size ≤ 1000000) (h : Lib.hasPrefix s.data.toList [58] = false) (w : World) :
    Calls Tryd.prog 82 #[.agg #[.int .i64 tk, .string nm, .int .i64 0, .slice none 0 0], .string s] w (Leafed (rleaf tk nm s.data.toList) w) := by
  have mixed : Tryd.prog.follows .mixedOrders = true := by kernel_rfl
  have HR : Hid (rleaf tk nm s.data.toList = if tk = 1 then some (.mk 1 nm 0 [], s.data.toList) else none) := by unfold rleaf; rw [if_neg (by rw [h]; simp)]; exact rfl
  obtain ⟨W1, hW1⟩ : ∃ W1, W1 = w.alloc (.cells #[.int .i64 tk, .string nm, .int .i64 0, .slice none 0 0] 24) := ⟨_, rfl⟩
  obtain ⟨W2, hW2⟩ : ∃ W2, W2 = W1.alloc (.cells #[.int .i64 0, .string ⟨#[]⟩, .int .i64 0, .slice none 0 0] 24) := ⟨_, rfl⟩
  have s1 : W1.heap.size = w.heap.size + 1 := by rw [hW1]; simp
  have s2 : W2.heap.size = w.heap.size + 1 + 1 := by rw [hW2]; simp [s1]
  have b1 : Below w.heap.size w W1 := by rw [hW1]; exact below1 (Nat.le_refl _) _
  have b2 : Below W1.heap.size W1 W2 := by rw [hW2]; exact below1 (Nat.le_refl _) _
  have hB : Below w.heap.size w W2 := b1.trans (b2.mono (by omega))
  have hx1 : W2.heap[w.heap.size]? = some (.cells #[.int .i64 tk, .string nm, .int .i64 0, .slice none 0 0] 24 (0, 0)) := by rw [b2.block _ (by omega), hW1]; exact heap_alloc_new _ _
  have hx2 : W2.heap[w.heap.size + 1]? = some (.cells #[.int .i64 0, .string ⟨#[]⟩, .int .i64 0, .slice none 0 0] 24 (0, 0)) := by rw [hW2, ← s1]; exact heap_alloc_new _ _
  have HW : Hid (W2 = (w.alloc (.cells #[.int .i64 tk, .string nm, .int .i64 0, .slice none 0 0] 24)).alloc (.cells #[.int .i64 0, .string ⟨#[]⟩, .int .i64 0, .slice none 0 0] 24)) := by rw [hW2, hW1]; exact rfl
  obtain ⟨a0, a1, a2, a3, af⟩ := box_at hx1
  obtain ⟨c0, c1, c2, c3, cf⟩ := box_at hx2
  have HB := Lib.hid hB; clear hB b1 b2 hW1 hW2 s1 hx1 hx2
  cases hl : s.data.toList with
  | nil =>
    have hz : ((s.size : Int) == 0) = true := by rw [beq_iff_eq, size_list, hl]; rfl
    rw [← hl]
    have HL := Lib.hid hl; clear hl h
    go_enter Tryd.func82, Tryd.ntmps82
    go_wp2_with fail
    rw [← HW.out]
    go_wp2_with fail
    go_region
    all_goals
      go_wp2_with fail
      refine bodyPost_ret (v := .tuple #[.agg #[.int .i64 tk, .string nm, .int .i64 0, .slice none 0 0], .string s, .bool (tk == 1)]) ?_ rfl ?_
      · simp [results, Tryd.results82, go_sem, c0, c1, c2, c3]
      refine ⟨(setFour_below HB.out (by omega)).drew, ?_⟩
      rw [HR.out]
      rcases hk with rfl | rfl
      · rw [if_pos rfl]
        exact ⟨none, 0, s, rfl, rep_leaf _ _ _ (by unfold maxLen; omega), rfl⟩
      · rw [if_neg (by omega)]
        exact ⟨_, _, _, _, _, _, _, rfl⟩
  | cons b r =>
    obtain ⟨h0, hb⟩ := first_byte hl
    have hne : b ≠ 58 := fun e => by subst e; rw [hl, prefix_one] at h; cases h
    obtain ⟨hb58, hbn⟩ := byte_ne 58 58 rfl hne
    have q1 : ((s.size : Int) == 0) = false := by rw [beq_eq_false_iff_ne]; omega
    rw [← hl]
    have HL := Lib.hid hl; clear hl h hne
    go_enter Tryd.func82, Tryd.ntmps82
    go_wp2_with fail
    rw [← HW.out]
    go_region
    all_goals
      go_wp2_with fail
      refine bodyPost_ret (v := .tuple #[.agg #[.int .i64 tk, .string nm, .int .i64 0, .slice none 0 0], .string s, .bool (tk == 1)]) ?_ rfl ?_
      · simp [results, Tryd.results82, go_sem, c0, c1, c2, c3]
      refine ⟨(setFour_below HB.out (by omega)).drew, ?_⟩
      rw [HR.out]
      rcases hk with rfl | rfl
      · rw [if_pos rfl]
        exact ⟨none, 0, s, rfl, rep_leaf _ _ _ (by unfold maxLen; omega), rfl⟩
      · rw [if_neg (by omega)]
        exact ⟨_, _, _, _, _, _, _, rfl⟩

set_option maxHeartbeats 4000000 in
set_option maxRecDepth 100000 in
theorem leaf_colon (tk : Int) (hk : tk = 1 ∨ tk = 2) (nm : ByteArray) (hnm : nm.size ≤ 24) (s : ByteArray) (hs : s.size ≤ 1000000) (r : List UInt8) (hl : s.data.toList = 58 :: r) (w : World) :
    Calls Tryd.prog 82 #[.agg #[.int .i64 tk, .string nm, .int .i64 0, .slice none 0 0], .string s] w (Leafed (rleaf tk nm s.data.toList) w) := by
  have mixed : Tryd.prog.follows .mixedOrders = true := by kernel_rfl
  obtain ⟨so, hso⟩ : ∃ so, so = sortOf (r.takeWhile partB) := ⟨_, rfl⟩
  obtain ⟨least, hle⟩ : ∃ least : Int, least = if tk = 1 then 1 else 0 := ⟨_, rfl⟩
  have HR : Hid (rleaf tk nm s.data.toList = if least ≤ so then some (.mk tk nm so [], r.drop (wlen r)) else none) := by
    unfold rleaf
    rw [hl, prefix_one, if_pos rfl, sorts_colon, ← hle, ← hso]
    by_cases h : least ≤ so
    · rw [decide_eq_true h, if_pos rfl, if_pos h, Nat.add_comm 1 (wlen r), List.drop_succ_cons]; exact rfl
    · rw [decide_eq_false h, if_neg (by simp), if_neg h]; exact rfl
  obtain ⟨W1, hW1⟩ : ∃ W1, W1 = w.alloc (.cells #[.int .i64 tk, .string nm, .int .i64 0, .slice none 0 0] 24) := ⟨_, rfl⟩
  obtain ⟨W2, hW2⟩ : ∃ W2, W2 = W1.alloc (.cells #[.int .i64 0, .string ⟨#[]⟩, .int .i64 0, .slice none 0 0] 24) := ⟨_, rfl⟩
  have s1 : W1.heap.size = w.heap.size + 1 := by rw [hW1]; simp
  have s2 : W2.heap.size = w.heap.size + 1 + 1 := by rw [hW2]; simp [s1]
  have b1 : Below w.heap.size w W1 := by rw [hW1]; exact below1 (Nat.le_refl _) _
  have b2 : Below W1.heap.size W1 W2 := by rw [hW2]; exact below1 (Nat.le_refl _) _
  have hB : Below w.heap.size w W2 := b1.trans (b2.mono (by omega))
  have hx1 : W2.heap[w.heap.size]? = some (.cells #[.int .i64 tk, .string nm, .int .i64 0, .slice none 0 0] 24 (0, 0)) := by rw [b2.block _ (by omega), hW1]; exact heap_alloc_new _ _
  have hx2 : W2.heap[w.heap.size + 1]? = some (.cells #[.int .i64 0, .string ⟨#[]⟩, .int .i64 0, .slice none 0 0] 24 (0, 0)) := by rw [hW2, ← s1]; exact heap_alloc_new _ _
  have HW : Hid (W2 = (w.alloc (.cells #[.int .i64 tk, .string nm, .int .i64 0, .slice none 0 0] 24)).alloc (.cells #[.int .i64 0, .string ⟨#[]⟩, .int .i64 0, .slice none 0 0] 24)) := by rw [hW2, hW1]; exact rfl
  obtain ⟨h0, hb⟩ := first_byte hl
  have q1 : ((s.size : Int) == 0) = false := by rw [beq_eq_false_iff_ne]; omega
  obtain ⟨st, hst⟩ : ∃ st, st = s.extract 1 s.size := ⟨_, rfl⟩
  have hstl : st.data.toList = r := by rw [hst, extract_rest, hl]; rfl
  have hsts : st.size + 1 = s.size := by rw [size_list, size_list, hstl, hl, List.length_cons]
  have NM := rname_any st W2 (by omega)
  rw [hstl] at NM
  have NM := Lib.hid NM
  have HX1 := Lib.hid hx1; clear hx1
  have HX2 := Lib.hid hx2; clear hx2
  have HB := Lib.hid hB; clear hB b1 b2 hW1 hW2 s1
  have HL := Lib.hid hl; clear hl
  have HST := Lib.hid hst; clear hst
  have HSO := Lib.hid hso; clear hso
  have HLE := Lib.hid hle; clear hle
  go_enter Tryd.func82, Tryd.ntmps82
  go_wp2_with fail
  rw [← HW.out]
  go_wp2_with fail
  rw [← HST.out]
  refine NM.out.mono ?_
  rintro e w1 ⟨x, rfl, hx, hxs, hw1⟩
  obtain rfl := hw1.symm
  clear hw1
  have hxz : 1 + x.size ≤ s.size := by rw [hxs]; have := wlen_le r; rw [← hstl, ← size_list] at this; rw [← hstl]; omega
  have i1 : (0 : Int) ≤ 1 + (x.size : Int) := by omega
  have i2 : 1 + (x.size : Int) ≤ (s.size : Int) := by omega
  have i3 : (1 + (x.size : Int)).toNat = 1 + x.size := by omega
  have HXL := Lib.hid hx; clear hx
  have HXS := Lib.hid hxs; clear hxs hb NM
  go_wp2_with fail
  go_loopw [8] (fun i wr => ∃ k : Nat, k ≤ 6 ∧ i = .int .i64 k ∧ Hid (least ≤ so → (k : Int) ≤ so) ∧ Hid (Lay W2.heap.size W2 wr)) (fun i _ => 6 - (intOf i).toNat)
  case atStart => exact ⟨0, by omega, rfl, by have := HLE.out; split at this <;> (intro h; show (0 : Int) ≤ so; omega), Lay.refl _ _⟩
  case round =>
    obtain ⟨k, hk6, rfl, HI, HLR⟩ := hrel
    have hx1 := (HLR.out.below.block w.heap.size (by omega)).trans HX1.out
    have hx2 := (HLR.out.below.block (w.heap.size + 1) (by omega)).trans HX2.out
    by_cases hk5 : k ≤ 5
    · have d1 : decide ((k : Int) ≤ 5) = true := decide_eq_true (by omega)
      have WC := Lib.hid (word_any k hk5 wr)
      obtain ⟨wd, hwd⟩ : ∃ wd, wd = (⟨(sortWord k).toArray⟩ : ByteArray) := ⟨_, rfl⟩
      rw [← hwd] at WC
      by_cases hxw : x = wd
      · have hsk : so = k := by
          rw [HSO.out, ← HXL.out, hxw, hwd]; exact sortOf_word (by omega) (by omega)
        have HXW := Lib.hid hxw
        rw [← hxw] at WC
        have HWD := Lib.hid hwd; clear hwd hxw
        by_cases hk0 : k = 0
        · have q0 : ((k : Int) != 0) = false := by rw [hk0]; rfl
          rcases hk with rfl | rfl
          · have HNX : Hid (least ≤ so → ((k + 1 : Nat) : Int) ≤ so) := by intro h; have := HLE.out; simp at this; omega
            have HSK := Lib.hid hsk; clear hsk hk0
            go_wp2_with fail
            refine WC.out.mono ?_
            rintro e w2 ⟨rfl, hl2⟩
            have hL2 : Lay W2.heap.size W2 w2 := HLR.out.trans (hl2.mono HLR.out.size)
            have hy1 := (hL2.below.block w.heap.size (by omega)).trans HX1.out
            obtain ⟨a0, a1, a2, a3, af⟩ := box_at hy1
            have HL2 := Lib.hid hL2
            clear hl2 hy1 WC hL2 hx1 hx2
            go_wp2_with fail
            go_roundw
            case rel => exact ⟨k + 1, by omega, by go_num, HNX.out, HL2.out⟩
            case measure => simp [intOf]; omega
          · have HOK : Hid (least ≤ so) := by have := HLE.out; rw [hsk]; simp at this; (show least ≤ (k : Int)); omega
            have HSK := Lib.hid hsk; clear hsk hk0
            go_wp2_with fail
            refine WC.out.mono ?_
            rintro e w2 ⟨rfl, hl2⟩
            have hL2 : Lay W2.heap.size W2 w2 := HLR.out.trans (hl2.mono HLR.out.size)
            have hy1 := (hL2.below.block w.heap.size (by omega)).trans HX1.out
            have hy2 := (hL2.below.block (w.heap.size + 1) (by omega)).trans HX2.out
            obtain ⟨a0, a1, a2, a3, af⟩ := box_at hy1
            obtain ⟨c0, c1, c2, c3, cf⟩ := box_at hy2
            have HB2 := Lib.hid (HB.out.trans (hL2.below.mono (by omega)))
            clear hl2 hy1 hy2 WC hL2
            go_wp2_with fail
            go_region
            all_goals
              go_wp2_with fail
              refine bodyPost_ret (v := .tuple #[.agg #[.int .i64 2, .string nm, .int .i64 k, .slice none 0 0], .string (s.extract (1 + x.size) s.size), .bool true]) ?_ rfl ?_
              · simp [results, Tryd.results82, go_sem, c0, c1, c2, c3]
              refine ⟨(setFour_below (HB2.out.setCell (p := ⟨w.heap.size, 2, none⟩) (Nat.le_refl _) _) (by omega)).drew, ?_⟩
              rw [HR.out, if_pos HOK.out, HSK.out]
              refine ⟨none, 0, _, rfl, rep_leaf _ _ _ (by unfold maxLen; omega), ?_⟩
              rw [extract_rest, HL.out, Nat.add_comm, List.drop_succ_cons, ← HXS.out]
        · have q0 : ((k : Int) != 0) = true := by simp; omega
          have HOK : Hid (least ≤ so) := by have := HLE.out; rw [hsk]; split at this <;> (show least ≤ (k : Int); omega)
          have HSK := Lib.hid hsk; clear hsk hk0
          go_wp2_with fail
          refine WC.out.mono ?_
          rintro e w2 ⟨rfl, hl2⟩
          have hL2 : Lay W2.heap.size W2 w2 := HLR.out.trans (hl2.mono HLR.out.size)
          have hy1 := (hL2.below.block w.heap.size (by omega)).trans HX1.out
          have hy2 := (hL2.below.block (w.heap.size + 1) (by omega)).trans HX2.out
          obtain ⟨a0, a1, a2, a3, af⟩ := box_at hy1
          obtain ⟨c0, c1, c2, c3, cf⟩ := box_at hy2
          have HB2 := Lib.hid (HB.out.trans (hL2.below.mono (by omega)))
          clear hl2 hy1 hy2 WC hL2
          go_wp2_with fail
          go_region
          all_goals
            go_wp2_with fail
            refine bodyPost_ret (v := .tuple #[.agg #[.int .i64 tk, .string nm, .int .i64 k, .slice none 0 0], .string (s.extract (1 + x.size) s.size), .bool true]) ?_ rfl ?_
            · simp [results, Tryd.results82, go_sem, c0, c1, c2, c3]
            refine ⟨(setFour_below (HB2.out.setCell (p := ⟨w.heap.size, 2, none⟩) (Nat.le_refl _) _) (by omega)).drew, ?_⟩
            rw [HR.out, if_pos HOK.out, HSK.out]
            refine ⟨none, 0, _, rfl, rep_leaf _ _ _ (by unfold maxLen; omega), ?_⟩
            rw [extract_rest, HL.out, Nat.add_comm, List.drop_succ_cons, ← HXS.out]
      · have e2 : ¬ x.toList = wd.toList := fun e => hxw (by
          rw [ByteArray.toList_eq, ByteArray.toList_eq] at e
          rw [bytes_of_list x, e, ← bytes_of_list])
        have e3 : (x.toList == wd.toList) = false := by rw [beq_eq_false_iff_ne]; exact e2
        have e4 : decide (x.toList = wd.toList) = false := decide_eq_false e2
        have HNX : Hid (least ≤ so → ((k + 1 : Nat) : Int) ≤ so) := by
          intro h
          have h1 := HI.out h
          have h2 : so ≠ k := fun e => hxw (by
            have h3 := (word_of_sort (l := r.takeWhile partB) (by rw [← HSO.out]; omega)).2
            rw [← HSO.out, e, ← HXL.out] at h3
            rw [hwd, h3])
          omega
        have HWD := Lib.hid hwd; clear hwd
        go_wp2_with fail
        refine WC.out.mono ?_
        rintro e w2 ⟨rfl, hl2⟩
        have hL2 : Lay W2.heap.size W2 w2 := HLR.out.trans (hl2.mono HLR.out.size)
        have hy1 := (hL2.below.block w.heap.size (by omega)).trans HX1.out
        obtain ⟨a0, a1, a2, a3, af⟩ := box_at hy1
        have HL2 := Lib.hid hL2
        clear hl2 hy1 WC hL2 hx1 hx2
        go_wp2_with fail
        go_roundw
        case rel => exact ⟨k + 1, by omega, by go_num, HNX.out, HL2.out⟩
        case measure => simp [intOf]; omega
    · obtain rfl : k = 6 := by omega
      have hno : ¬ least ≤ so := fun h => by
        have h1 := HI.out h
        have h2 := (word_of_sort (l := r.takeWhile partB) (by rw [← HSO.out]; omega)).1
        rw [← HSO.out] at h2; omega
      have HRR : Hid (rleaf tk nm s.data.toList = none) := by rw [HR.out]; exact if_neg hno
      obtain ⟨a0, a1, a2, a3, af⟩ := box_at hx1
      obtain ⟨c0, c1, c2, c3, cf⟩ := box_at hx2
      have HB2 := Lib.hid (HB.out.trans (HLR.out.below.mono (by omega)))
      clear hno hx1 hx2
      go_wp2_with fail
      refine bodyPost_ret (v := .tuple #[.agg #[.int .i64 tk, .string nm, .int .i64 0, .slice none 0 0], .string s, .bool false]) ?_ rfl ?_
      · simp [results, Tryd.results82, go_sem, c0, c1, c2, c3]
      refine ⟨setFour_below HB2.out (by omega), ?_⟩
      rw [HRR.out]
      exact ⟨_, _, _, _, _, _, _, rfl⟩
end Go.Proofs.YtbgkabgbgbebaaaDoor
