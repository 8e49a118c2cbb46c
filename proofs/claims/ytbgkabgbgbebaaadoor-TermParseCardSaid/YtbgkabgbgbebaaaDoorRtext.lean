/- The reference's word, Text and Format. -/
import Derived.Shelf.SlSortCmp.QuietGrown
import Derived.Test.YtbgkabgbgbebaaaDoorWrite
import Derived.Test.YtbgkabgbgbebaaaDoorRvalid
namespace Go.Proofs.YtbgkabgbgbebaaaDoor
open Go.RowKit Go.Sort

theorem bytes_eq {a : ByteArray} {l : List UInt8} (h : a.data.toList = l) : a = ⟨l.toArray⟩ := by subst h; exact bytes_of_list a

set_option maxHeartbeats 1000000 in
theorem word_any (s : Nat) (hs : s ≤ 5) (w : World) : Calls Tryd.prog 74 #[.int .i64 s] w fun e w' => e = .returned (.string ⟨(sortWord s).toArray⟩) ∧ Lay w.heap.size w w' := by
  have hlay : Hid (∀ o, Lay w.heap.size w (w.alloc o)) := fun o => (Lay.refl _ _).alloc (Nat.le_refl _) o
  obtain h | h | h | h | h | h : s = 0 ∨ s = 1 ∨ s = 2 ∨ s = 3 ∨ s = 4 ∨ s = 5 := by omega
  all_goals
    subst h
    clear hs
    go_enter Tryd.func74, Tryd.ntmps74
    go_wp2_with fail
    go_ret
    exact ⟨rfl, hlay.out _⟩

set_option maxHeartbeats 2000000 in
set_option maxRecDepth 100000 in
theorem rtext_leaf (tk : Int) (hk : tk = 1 ∨ tk = 2) (nm : ByteArray) (s : Nat) (hs : s ≤ 5) (hnm : nm.size ≤ 24) (A : Option Addr) (cap : Nat) (w : World) :
    Calls Tryd.prog 61 #[(Tm.mk tk nm s []).val A cap] w fun e w' => e = .returned (.string ⟨(Tm.mk tk nm s []).text.toArray⟩) ∧ Lay w.heap.size w w' := by
  have mixed : Tryd.prog.follows .mixedOrders = true := by kernel_rfl
  obtain ⟨V, hV⟩ : ∃ V, V = w.alloc (.cells #[.int .i64 tk, .string nm, .int .i64 s, .slice A 0 cap] 24) := ⟨_, rfl⟩
  have hlV : Lay w.heap.size w V := by rw [hV]; exact (Lay.refl _ _).alloc (Nat.le_refl _) _
  have hbx : V.heap[w.heap.size]? = some (.cells #[.int .i64 tk, .string nm, .int .i64 s, .slice A 0 cap] 24 (0, 0)) := by rw [hV]; exact heap_alloc_new _ _
  have hsz : V.heap.size = w.heap.size + 1 := by rw [hV]; simp
  obtain ⟨wd, hwd⟩ : ∃ wd, wd = (⟨(sortWord s).toArray⟩ : ByteArray) := ⟨_, rfl⟩
  have hwl := word_len s hs
  have WC : Hid (∀ Z, Calls Tryd.prog 74 #[.int .i64 s] Z fun e w' => e = .returned (.string wd) ∧ Lay Z.heap.size Z w') := Lib.hid fun Z => by rw [hwd]; exact word_any s hs Z
  rw [← hwd] at hwl
  have HWD : Hid (wd.data.toList = sortWord s) := by rw [hwd]; exact rfl
  have hg : ∀ n os, (grow (V.drewN n) os).heap[w.heap.size]? = some (.cells #[.int .i64 tk, .string nm, .int .i64 s, .slice A 0 cap] 24 (0, 0)) := fun n os => ((Lay.of_grow (w := V) n os).below.block _ (by omega)).trans hbx
  have a1 := fun n os => (box_at (hg n os)).2.1
  have a2 := fun n os => (box_at (hg n os)).2.2.1
  have HL : Hid (∀ n os, Lay w.heap.size w (grow (V.drewN n) os)) := Lib.hid fun n os => hlV.trans ((Lay.of_grow n os).mono (by omega))
  obtain ⟨r0, r1, r2, r3, -⟩ := box_at hbx
  have HV := Lib.hid hV; clear hV hwd hg hbx
  have HLV := Lib.hid hlV; clear hlV
  have q1 : ¬ 9223372036854775807 < 1 + nm.size := by omega
  have q2 : ¬ 9223372036854775807 < 1 + nm.size + 1 := by omega
  have q3 : ¬ 9223372036854775807 < 1 + nm.size + 1 + wd.size := by omega
  have q4 : ¬ 9223372036854775807 < nm.size + 1 := by omega
  have q5 : ¬ 9223372036854775807 < nm.size + 1 + wd.size := by omega
  simp only [Tm.val, Tm.kind, Tm.name, Tm.sort, Tm.kids]
  rcases hk with rfl | rfl
  · by_cases hs0 : s = 0
    · have HT : Hid ((Tm.mk 1 nm s []).text = 63 :: nm.data.toList) := by rw [Tm.text, if_pos rfl, if_pos (by omega), List.append_nil]; exact rfl
      have e : ((s : Int) == 0) = true := by rw [beq_iff_eq]; omega
      clear hs0 a1 a2
      go_enter Tryd.func61, Tryd.ntmps61
      go_wp2_with fail
      rw [← HV.out]
      go_wp2_with fail
      go_ret
      refine ⟨?_, HLV.out⟩
      rw [HT.out, bytes_eq (a := ⟨#[63]⟩ ++ nm) (l := 63 :: nm.data.toList) (by rw [list_append]; rfl)]; exact rfl
    · have HT : Hid ((Tm.mk 1 nm s []).text = 63 :: (nm.data.toList ++ 58 :: sortWord s)) := by rw [Tm.text, if_pos rfl, if_neg (by omega)]; exact rfl
      have e : ((s : Int) == 0) = false := by rw [beq_eq_false_iff_ne]; omega
      clear hs0
      go_enter Tryd.func61, Tryd.ntmps61
      go_wp2_with fail
      rw [← HV.out]
      go_wp2_with fail
      go_quiet_grown ((go_at_call 74; exact quiet_lay (WC.out _)))
      go_wp2_with fail
      go_ret
      refine ⟨?_, HL.out _ _⟩
      rw [HT.out, bytes_eq (a := ⟨#[63]⟩ ++ nm ++ ⟨#[58]⟩ ++ wd) (l := 63 :: (nm.data.toList ++ 58 :: sortWord s)) (by simp only [list_append, HWD.out, List.append_assoc]; rfl)]; exact rfl
  · have HT : Hid ((Tm.mk 2 nm s []).text = nm.data.toList ++ 58 :: sortWord s) := by rw [Tm.text]; exact (if_neg (by omega)).trans (if_pos rfl)
    go_enter Tryd.func61, Tryd.ntmps61
    go_wp2_with fail
    rw [← HV.out]
    go_wp2_with fail
    go_quiet_grown ((go_at_call 74; exact quiet_lay (WC.out _)))
    go_wp2_with fail
    go_ret
    refine ⟨?_, HL.out _ _⟩
    rw [HT.out, bytes_eq (a := nm ++ ⟨#[58]⟩ ++ wd) (l := nm.data.toList ++ 58 :: sortWord s) (by simp only [list_append, HWD.out, List.append_assoc]; rfl)]; exact rfl

set_option maxHeartbeats 4000000 in
set_option maxRecDepth 100000 in
theorem rtext_any (n : Nat) : ∀ (t : Tm) (A : Option Addr) (cap : Nat) (w : World), t.size ≤ n → n ≤ 1000000 → t.check = 0 → RepT w w.heap.size t A cap →
    Calls Tryd.prog 61 #[t.val A cap] w fun e w' => e = .returned (.string ⟨t.text.toArray⟩) ∧ Lay w.heap.size w w' := by
  induction n with
  | zero => intro t _ _ _ h; have := t.size_pos; omega
  | succ n ih =>
    intro t A cap w hn hb hck hrep
    obtain ⟨tk, nm, ts, kids⟩ := t
    by_cases k1 : tk = 1 ∨ tk = 2
    · obtain ⟨h1, h2, h3, h4⟩ := check_leaf k1 hck
      subst h3
      obtain ⟨s, rfl⟩ := Int.eq_ofNat_of_zero_le h1
      exact rtext_leaf tk k1 nm s (by omega) (name_size h4) A cap w
    obtain ⟨h1, h2, h3, h4⟩ := check_app3 (by omega) hck
    subst h1 h2
    have htl := text_len _ hck
    clear k1 hck
    have hnm := name_size h3
    have htx : (Tm.mk 3 nm 0 kids).text = nm.data.toList ++ 40 :: (Tm.texts kids ++ [41]) := by rw [Tm.text, if_neg (by omega), if_neg (by omega)]
    rw [Tm.size] at hn htl
    have hln : nm.size + (Tm.texts kids).length + 2 ≤ 100000000 := by
      rw [htx] at htl; simp only [List.length_append, List.length_cons, List.length_nil, ← size_list] at htl; omega
    rw [RepT_mk] at hrep
    obtain ⟨-, hr2, hr3, hr4⟩ := hrep
    have hls := Tm.length_le_sizes kids
    obtain ⟨V, hV⟩ : ∃ V, V = w.alloc (.cells #[.int .i64 3, .string nm, .int .i64 0, .slice A kids.length cap] 24) := ⟨_, rfl⟩
    have hlV : Lay w.heap.size w V := by rw [hV]; exact (Lay.refl _ _).alloc (Nat.le_refl _) _
    have hbx : V.heap[w.heap.size]? = some (.cells #[.int .i64 3, .string nm, .int .i64 0, .slice A kids.length cap] 24 (0, 0)) := by rw [hV]; exact heap_alloc_new _ _
    have hsz : V.heap.size = w.heap.size + 1 := by rw [hV]; simp
    have q1 : ¬ 9223372036854775807 < nm.size + 1 := by omega
    obtain ⟨o0, ho0⟩ : ∃ o, o = nm ++ (⟨#[40]⟩ : ByteArray) := ⟨_, rfl⟩
    have HO0 : Hid (o0.data.toList = nm.data.toList ++ [40]) := by rw [ho0, list_append]; exact rfl
    obtain ⟨r0, r1, r2, r3, -⟩ := box_at hbx
    have HV := Lib.hid hV; clear hV
    have HLV := Lib.hid hlV; clear hlV
    have HBX := Lib.hid hbx; clear hbx
    have HTX := Lib.hid htx; clear htx htl
    have HCK := Lib.hid h4; clear h4 h3
    have IH := Lib.hid ih; clear ih
    have HNL := Lib.hid (size_list nm)
    have HOO := Lib.hid ho0; clear ho0
    simp only [Tm.val, Tm.kind, Tm.name, Tm.sort, Tm.kids]
    go_enter Tryd.func61, Tryd.ntmps61
    go_wp2_with fail
    rw [← HV.out]
    go_wp2_with fail
    rw [← HOO.out]
    clear r0 r1 r2 r3
    go_loopw [3, 4] (fun v i wr => ∃ (k : Nat) (o : ByteArray), k ≤ kids.length ∧ i = .int .i64 k ∧ v = .string o ∧ Hid (o.data.toList = nm.data.toList ++ [40] ++ Tm.texts (kids.take k)) ∧ Hid (Lay V.heap.size V wr)) (fun _ i _ => kids.length - (intOf i).toNat)
    case atStart => exact ⟨0, o0, Nat.zero_le _, rfl, rfl, by rw [List.take_zero, Tm.texts, List.append_nil]; exact HO0, Lay.refl _ _⟩
    case round =>
      obtain ⟨k, o, hk, rfl, rfl, HO, HLR⟩ := hrel
      have i1 : (0 : Int) ≤ (k : Int) := Int.natCast_nonneg _
      have hL := HLV.out.trans (HLR.out.mono (by omega))
      have hbx := (HLR.out.below.block w.heap.size (by omega)).trans HBX.out
      obtain ⟨r0, r1, r2, r3, -⟩ := box_at hbx
      have hwr := HLR.out.size
      have hos := congrArg List.length HO.out
      rw [← size_list, List.length_append, List.length_append, ← HNL.out, List.length_cons, List.length_nil] at hos
      have htk := Tm.texts_take_le kids k
      have ho2 : o.size ≤ 100000000 := by omega
      by_cases hlt2 : k < kids.length
      · have i2 : (k : Int) < (kids.length : Int) := by omega
        rcases hr4 with rfl | ⟨kb, off, rfl, hbB, hl⟩
        · simp at hlt2
        obtain ⟨A', cap', c0, c1, c2, c3, c5⟩ := (hl.below hL.below hbB).get k hlt2
        have hsg := Tm.sizes_get kids k hlt2
        have htt := Tm.texts_take_succ kids k hlt2
        have htl := Tm.texts_take_le kids (k + 1)
        have hln2 := congrArg List.length htt
        rw [List.length_append, List.length_append] at hln2
        have hkc := check_kid HCK.out k hlt2
        obtain ⟨tx, htx⟩ : ∃ tx, tx = (⟨(kids[k].text).toArray⟩ : ByteArray) := ⟨_, rfl⟩
        have htd : tx.data.toList = kids[k].text := by rw [htx]
        have hts : tx.size = kids[k].text.length := by rw [size_list, htd]
        have CON := IH.out kids[k] A' cap' wr (by omega) (by omega) hkc (c5.go (Below.refl _ _) (by omega))
        rw [← htx] at CON
        simp only [Tm.val] at CON
        have CON := Lib.hid CON
        have HL := Lib.hid hL; clear hL hbx hos htk hkc hl c5 htx
        by_cases hk0 : k = 0
        · have q0 : decide (0 < k) = false := decide_eq_false (by omega)
          have q2 : ¬ 9223372036854775807 < o.size + tx.size := by omega
          have HT := Lib.hid (show o.data.toList ++ tx.data.toList = nm.data.toList ++ [40] ++ Tm.texts (kids.take (k + 1)) by
            rw [HO.out, htd, htt, if_pos hk0, List.nil_append, List.append_assoc])
          clear htt htl hln2 htd hts hk0
          go_wp2_with fail
          refine CON.out.mono ?_; clear CON c0 c1 c2 c3 r0 r1 r2 r3
          rintro e w2 ⟨rfl, hl2⟩
          have hl3 : Lay V.heap.size V w2 := HLR.out.trans (hl2.mono hwr)
          clear hl2
          go_wp2_with fail
          go_roundw
          case rel => exact ⟨k + 1, o ++ tx, by omega, by go_num, rfl, by rw [list_append]; exact HT.out, hl3⟩
          case measure => simp [intOf]; omega
        · have i3 : 0 < k := by omega
          have q3 : ¬ 9223372036854775807 < o.size + 2 := by omega
          have q2 : ¬ 9223372036854775807 < o.size + 2 + tx.size := by omega
          have HT := Lib.hid (show o.data.toList ++ [44, 32] ++ tx.data.toList = nm.data.toList ++ [40] ++ Tm.texts (kids.take (k + 1)) by
            rw [HO.out, htd, htt, if_neg hk0]; simp only [List.append_assoc])
          clear htt htl hln2 htd hts hk0
          go_wp2_with fail
          refine CON.out.mono ?_; clear CON c0 c1 c2 c3 r0 r1 r2 r3
          rintro e w2 ⟨rfl, hl2⟩
          have hl3 : Lay V.heap.size V w2 := HLR.out.trans (hl2.mono hwr)
          clear hl2
          go_wp2_with fail
          go_roundw
          case rel => exact ⟨k + 1, o ++ ⟨#[44, 32]⟩ ++ tx, by omega, by go_num, rfl, by rw [list_append, list_append]; exact HT.out, hl3⟩
          case measure => simp [intOf]; omega
      · obtain rfl : k = kids.length := by omega
        have q2 : ¬ 9223372036854775807 < o.size + 1 := by omega
        have HT := Lib.hid (show (o ++ ⟨#[41]⟩ : ByteArray).data.toList = nm.data.toList ++ 40 :: (Tm.texts kids ++ [41]) by
          rw [list_append, HO.out, List.take_length]; simp)
        have HL := Lib.hid hL; clear hL hos htk hbx
        go_wp2_with fail
        go_ret
        refine ⟨?_, HL.out⟩
        rw [HTX.out, bytes_eq HT.out]; exact rfl

set_option maxHeartbeats 2000000 in
set_option maxRecDepth 100000 in
theorem rformat_any (t : Tm) (A : Option Addr) (cap : Nat) (w : World) (hn : t.size ≤ 1000000) (hrep : RepT w w.heap.size t A cap) :
    Calls Tryd.prog 41 #[t.val A cap] w fun e w' => e = .returned (.tuple #[.string ⟨t.formatE.1.toArray⟩, .int .i64 t.formatE.2]) ∧ Lay w.heap.size w w' := by
  obtain ⟨V, hV⟩ : ∃ V, V = w.alloc (.cells #[.int .i64 t.kind, .string t.name, .int .i64 t.sort, .slice A t.kids.length cap] 24) := ⟨_, rfl⟩
  have hbV : Lay w.heap.size w V := by rw [hV]; exact (Lay.refl _ _).alloc (Nat.le_refl _) _
  have hbx : V.heap[w.heap.size]? = some (.cells #[.int .i64 t.kind, .string t.name, .int .i64 t.sort, .slice A t.kids.length cap] 24 (0, 0)) := by rw [hV]; exact heap_alloc_new _ _
  have hsz : V.heap.size = w.heap.size + 1 := by rw [hV]; simp
  have VA := Lib.hid (rvalid_any t A cap V hn (hrep.go hbV.below (by omega)))
  obtain ⟨vl, hvl⟩ : ∃ vl, vl = t.valid := ⟨_, rfl⟩
  rw [← hvl] at VA
  obtain ⟨r0, r1, r2, r3, -⟩ := box_at hbx
  have HV := Lib.hid hV; clear hV
  have HBV := Lib.hid hbV; clear hbV
  have HBX := Lib.hid hbx; clear hbx
  have HVL := Lib.hid hvl; clear hvl
  simp only [Tm.val] at VA ⊢
  go_enter Tryd.func41, Tryd.ntmps41
  go_wp2_with fail
  rw [← HV.out]
  refine VA.out.mono ?_; clear VA r0 r1 r2 r3
  rintro e w1 ⟨rfl, hl1⟩
  have hL1 : Lay w.heap.size w w1 := HBV.out.trans (hl1.mono (by omega))
  have hbx1 := (hl1.below.block _ (by omega)).trans HBX.out
  obtain ⟨r0, r1, r2, r3, -⟩ := box_at hbx1
  by_cases h0 : vl = 0
  · subst h0
    have hf := valid_check HVL.out.symm
    have HFE : Hid (t.formatE = (t.text, 0)) := by unfold Tm.formatE; exact if_pos HVL.out.symm
    have CON := rtext_any 1000000 t A cap w1 hn (Nat.le_refl _) hf.1 (hrep.go hL1.below hL1.size)
    rw [Tm.val] at CON
    have CON := Lib.hid CON
    have HL1 := Lib.hid hL1; clear hL1 hbx1 hl1 HV HBV HBX hf
    go_wp2_with fail
    refine CON.out.mono ?_; clear CON r0 r1 r2 r3
    rintro e w2 ⟨rfl, hl2⟩
    have hL2 := Lib.hid (HL1.out.trans (hl2.mono HL1.out.size)); clear hl2
    go_wp2_with fail
    go_ret2
    rw [HFE.out]
    exact ⟨rfl, hL2.out⟩
  · have q : (vl == 0) = false := by rw [beq_eq_false_iff_ne]; exact h0
    have q' : (vl != 0) = true := by simp [h0]
    have HFE : Hid (t.formatE = ([], vl)) := by unfold Tm.formatE; rw [← HVL.out]; exact if_neg h0
    have HL1 := Lib.hid hL1; clear hL1 hbx1 hl1 HV HBV HBX h0
    go_wp2_with fail
    go_ret2
    rw [HFE.out]
    exact ⟨rfl, HL1.out⟩
end Go.Proofs.YtbgkabgbgbebaaaDoor
