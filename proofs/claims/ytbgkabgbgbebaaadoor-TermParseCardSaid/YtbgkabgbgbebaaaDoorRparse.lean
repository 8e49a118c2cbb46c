/- The reference's Parse. -/
import Derived.Test.YtbgkabgbgbebaaaDoorRread
namespace Go.Proofs.YtbgkabgbgbebaaaDoor
open Go.RowKit Go.Sort

theorem read_any (d : Nat) : ∀ (s : ByteArray) (n : Nat) (w : World), s.size ≤ 1000000 → 2 * s.size + 1 ≤ n → d ≤ 1000000 → Calls Tryd.prog 65 #[.string s, .int .i64 d] w (Leafed (rterm d n s.data.toList) w) := by
  induction d with
  | zero =>
    intro s n w hs hn hd
    obtain ⟨m, rfl⟩ : ∃ m, n = m + 1 := ⟨n - 1, by omega⟩
    exact read_bad s 0 m hs hd w (.inr rfl)
  | succ d ih =>
    intro s n w hs hn hd
    obtain ⟨m, rfl⟩ : ∃ m, n = m + 1 := ⟨n - 1, by omega⟩
    cases hg : nameL ((if Lib.hasPrefix s.data.toList [63] = true then s.data.toList.drop 1 else s.data.toList).takeWhile partB) with
    | false => exact read_bad s (d + 1) m hs hd w (.inl hg)
    | true =>
      cases hv : Lib.hasPrefix s.data.toList [63] with
      | true => exact read_leaf s d m hs (by omega) w hg (.inl hv)
      | false =>
        cases hp : Lib.hasPrefix (s.data.toList.drop (wlen s.data.toList)) [40] with
        | false => exact read_leaf s d m hs (by omega) w hg (.inr hp)
        | true =>
          rw [hv, if_neg (by simp)] at hg
          exact read_app s d m hs (by omega) w hv hg hp (fun s n w h1 h2 => ih s n w h1 h2 (by omega)) hn

set_option maxHeartbeats 4000000 in
set_option maxRecDepth 100000 in
theorem rparse_any (s : ByteArray) (w : World) (hs : s.size ≤ 2000) : Calls Tryd.prog 45 #[.string s] w (Parsed s.data.toList w) := by
  obtain ⟨W1, hW1⟩ : ∃ W1, W1 = w.alloc (.cells #[.int .i64 0, .string ⟨#[]⟩, .int .i64 0, .slice none 0 0] 24) := ⟨_, rfl⟩
  have s1 : W1.heap.size = w.heap.size + 1 := by rw [hW1]; simp
  have b1 : Below w.heap.size w W1 := by rw [hW1]; exact below1 (Nat.le_refl _) _
  have hr : W1.heap[w.heap.size]? = some (.cells #[.int .i64 0, .string ⟨#[]⟩, .int .i64 0, .slice none 0 0] 24 (0, 0)) := by rw [hW1]; exact heap_alloc_new _ _
  have hT := read_any 800 s (2 * s.size + 1) W1 (by omega) (Nat.le_refl _) (by omega)
  rw [show rterm 800 (2 * s.size + 1) s.data.toList = pterm (2 * s.size + 1) s.data.toList by unfold rterm; rw [size_list]; exact parse_cut (by rw [← size_list]; exact hs)] at hT
  rw [show ((800 : Nat) : Int) = 800 from rfl] at hT
  have HT := Lib.hid hT; clear hT
  have HR := Lib.hid hr; clear hr
  have HB := Lib.hid b1; clear b1
  have HW := Lib.hid hW1; clear hW1
  go_enter Tryd.func45, Tryd.ntmps45
  go_wp2_with fail
  rw [← HW.out]
  refine HT.out.mono ?_; clear HT
  rintro e w5 ⟨hb5, hm⟩
  have hsz5 := hb5.size
  have hB5 : Below w.heap.size w w5 := HB.out.trans (hb5.mono (by omega))
  have hr5 := (hb5.block _ (by omega)).trans HR.out
  have HB5 := Lib.hid hB5; clear hB5 hb5
  have HR5 := Lib.hid hr5; clear hr5
  have bad : ∀ (Y : World), Below w.heap.size w Y → ∀ x y z v : Value, Hid (Parsed s.data.toList w (.returned (.tuple #[.agg #[.int .i64 0, .string ⟨#[]⟩, .int .i64 0, .slice none 0 0], .int .i64 2])) ((((Y.setCell ⟨w.heap.size, 0, none⟩ x).setCell ⟨w.heap.size, 1, none⟩ y).setCell ⟨w.heap.size, 2, none⟩ z).setCell ⟨w.heap.size, 3, none⟩ v)) ∨ parseE s.data.toList ≠ (.mk 0 ⟨#[]⟩ 0 [], 2) := fun Y hY x y z v => by
    by_cases h : parseE s.data.toList = (.mk 0 ⟨#[]⟩ 0 [], 2)
    · left
      show Parsed _ _ _ _
      unfold Parsed
      rw [h]
      exact ⟨none, 0, rfl, rep_leaf _ _ _ (Nat.zero_le _), setFour_below hY (Nat.le_refl _)⟩
    · exact .inr h
  have HE0 : Hid (parseE s.data.toList = match pterm (2 * s.size + 1) s.data.toList with | some (t, []) => if t.valid = 0 then (t, 0) else (.mk 0 ⟨#[]⟩ 0 [], t.valid) | _ => (.mk 0 ⟨#[]⟩ 0 [], 2)) := by unfold parseE; rw [size_list]; exact rfl
  cases hpt : pterm (2 * s.size + 1) s.data.toList with
  | none =>
    rw [hpt] at hm HE0
    obtain ⟨k', nm', so', A', l', cc', s', rfl⟩ := hm
    have hbx := (below1 (Nat.le_refl _) (.cells #[.int .i64 k', .string nm', .int .i64 so', .slice A' l' cc'] 24) : Below w5.heap.size w5 _)
    have hrx := (hbx.block _ (by omega)).trans HR5.out
    obtain ⟨c0, c1, c2, c3, cf⟩ := box_at hrx
    have HBX := Lib.hid (HB5.out.trans (hbx.mono (by omega)))
    clear hpt hbx hrx
    go_wp2_with fail
    refine bodyPost_ret (v := .tuple #[.agg #[.int .i64 0, .string ⟨#[]⟩, .int .i64 0, .slice none 0 0], .int .i64 2]) ?_ rfl ?_
    · simp [results, Tryd.results45, go_sem, c0, c1, c2, c3]
    rcases bad _ HBX.out (.int .i64 0) (.string ⟨#[]⟩) (.int .i64 0) (.slice none 0 0) with h | h
    · exact h.out
    · exact absurd HE0.out h
  | some tr =>
    obtain ⟨t, r⟩ := tr
    rw [hpt] at hm HE0
    have hsize := (psize _).1 _ _ _ hpt
    obtain ⟨A, cap, s', rfl, hrep, hs'⟩ := hm
    have hbx := (below1 (Nat.le_refl _) (.cells #[.int .i64 t.kind, .string t.name, .int .i64 t.sort, .slice A t.kids.length cap] 24) : Below w5.heap.size w5 _)
    have hrx := (hbx.block _ (by omega)).trans HR5.out
    have htx := heap_alloc_new w5 (.cells #[.int .i64 t.kind, .string t.name, .int .i64 t.sort, .slice A t.kids.length cap] 24)
    obtain ⟨c0, c1, c2, c3, cf⟩ := box_at hrx
    have HBX := Lib.hid (HB5.out.trans (hbx.mono (by omega)))
    rw [← size_list] at hsize
    clear hpt
    cases r with
    | cons b r =>
      have hne : s'.toList.isEmpty = false := by rw [ByteArray.toList_eq, hs']; rfl
      have hne2 : ¬ s'.toList = [] := by rw [ByteArray.toList_eq, hs']; simp
      have hne3 : (s'.toList == []) = false := by rw [ByteArray.toList_eq, hs']; rfl
      clear hbx hrx htx hs' hrep
      simp only [Tm.val]
      go_wp2_with fail
      refine bodyPost_ret (v := .tuple #[.agg #[.int .i64 0, .string ⟨#[]⟩, .int .i64 0, .slice none 0 0], .int .i64 2]) ?_ rfl ?_
      · simp [results, Tryd.results45, go_sem, c0, c1, c2, c3]
      rcases bad _ HBX.out (.int .i64 0) (.string ⟨#[]⟩) (.int .i64 0) (.slice none 0 0) with h | h
      · exact h.out
      · exact absurd HE0.out h
    | nil =>
      have hne : s'.toList.isEmpty = true := by rw [ByteArray.toList_eq, hs']; rfl
      have hne2 : s'.toList = [] := by rw [ByteArray.toList_eq, hs']
      obtain ⟨X, hX⟩ : ∃ X, X = w5.alloc (.cells #[.int .i64 t.kind, .string t.name, .int .i64 t.sort, .slice A t.kids.length cap] 24) := ⟨_, rfl⟩
      rw [← hX] at hbx hrx htx HBX
      have hsx : X.heap.size = w5.heap.size + 1 := by rw [hX]; simp
      have hrepX : RepP X (fun b => W1.heap.size ≤ b ∧ b < w5.heap.size) t A cap := RepP.mono (fun _ h => h) (fun q hq => hbx.cell hq.2) _ _ _ hrep
      have hV := rvalid_any t A cap X (by omega) (RepP.mono (fun b h => by omega) (fun _ _ => rfl) _ _ _ hrepX)
      obtain ⟨vl, hvl⟩ : ∃ vl, vl = t.valid := ⟨_, rfl⟩
      have HE1 : Hid (parseE s.data.toList = if vl = 0 then (t, 0) else (.mk 0 ⟨#[]⟩ 0 [], vl)) := by rw [hvl]; exact HE0.out
      rw [← hvl] at hV
      have HV := Lib.hid hV; clear hV hvl
      have HREP := Lib.hid hrepX; clear hrepX hrep
      have HRX := Lib.hid hrx; clear hrx
      have HTX := Lib.hid htx; clear htx hbx
      have HX := Lib.hid hX
      clear hX hs'
      simp only [Tm.val] at HV ⊢
      go_wp2_with fail
      rw [← HX.out]
      refine HV.out.mono ?_; clear HV c0 c1 c2 c3 cf hne hne2
      rintro e w7 ⟨rfl, hl⟩
      have hr7 := (hl.below.block _ (by omega)).trans HRX.out
      have ht7 := (hl.below.block _ (by omega)).trans HTX.out
      have hs7 := hl.size
      have HREP7 : Hid (RepP w7 (fun b => W1.heap.size ≤ b ∧ b < w5.heap.size) t A cap) := RepP.mono (fun _ h => h) (fun q hq => hl.below.cell (by have := hq.2; omega)) _ _ _ HREP.out
      have HB7 := Lib.hid (HBX.out.trans (hl.below.mono (by omega)))
      obtain ⟨c0, c1, c2, c3, cf⟩ := box_at hr7
      obtain ⟨t0, t1, t2, t3, tf⟩ := box_at ht7
      clear hl hr7 ht7 HREP
      have hwne : w5.heap.size ≠ w.heap.size := by omega
      by_cases hv0 : vl = 0
      · subst hv0
        have HE : Hid (parseE s.data.toList = (t, 0)) := by rw [HE1.out]; exact if_pos rfl
        go_wp2_with fail
        refine bodyPost_ret (v := .tuple #[.agg #[.int .i64 t.kind, .string t.name, .int .i64 t.sort, .slice A t.kids.length cap], .int .i64 0]) ?_ rfl ?_
        · simp [results, Tryd.results45, go_sem, c0, c1, c2, c3]
        unfold Parsed
        rw [HE.out]
        refine ⟨A, cap, rfl, ?_, setFour_below HB7.out (Nat.le_refl _)⟩
        refine RepP.mono ?_ ?_ _ _ _ HREP7.out
        · rintro b ⟨h1, h2⟩; exact ⟨by omega, by simp [World.setCell]; omega⟩
        · rintro q ⟨h1, h2⟩
          have hq : ∀ o, (⟨w.heap.size, o, none⟩ : Addr) ≠ q := fun o e => by rw [← e] at h1; simp at h1; omega
          rw [World.cell?_setCell_other _ _ _ _ (hq _), World.cell?_setCell_other _ _ _ _ (hq _), World.cell?_setCell_other _ _ _ _ (hq _), World.cell?_setCell_other _ _ _ _ (hq _)]
      · have q : (vl == 0) = false := by rw [beq_eq_false_iff_ne]; exact hv0
        have q' : (vl != 0) = true := by simp [hv0]
        have HE : Hid (parseE s.data.toList = (.mk 0 ⟨#[]⟩ 0 [], vl)) := by rw [HE1.out]; exact if_neg hv0
        clear hv0
        go_wp2_with fail
        refine bodyPost_ret (v := .tuple #[.agg #[.int .i64 0, .string ⟨#[]⟩, .int .i64 0, .slice none 0 0], .int .i64 vl]) ?_ rfl ?_
        · simp [results, Tryd.results45, go_sem, c0, c1, c2, c3]
        unfold Parsed
        rw [HE.out]
        exact ⟨none, 0, rfl, rep_leaf _ _ _ (Nat.zero_le _), setFour_below HB7.out (Nat.le_refl _)⟩
end Go.Proofs.YtbgkabgbgbebaaaDoor
