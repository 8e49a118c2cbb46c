/- term.Parse. -/
import Derived.Test.YtbgkabgbgbebaaaDoorTapp
import Derived.Test.YtbgkabgbgbebaaaDoorPsize
namespace Go.Proofs.YtbgkabgbgbebaaaDoor
open Go.RowKit Go.Sort

theorem term_any (B pb : Nat) (hB : B ≤ pb) (s : ByteArray) (hs : s.size ≤ 1000000) : ∀ n m, m ≤ n → ∀ i w, Prs pb s i w → Words B w → i ≤ s.size → 2 * (s.size - i) + 1 ≤ m →
    Calls Tryd.prog 64 #[.pointer (some ⟨pb, 0, none⟩)] w (Termed pb s i m w) := by
  intro n
  induction n with
  | zero => intro m hm i w _ _ _ h; omega
  | succ n ih =>
    intro m hm i w hp hw hi hf
    obtain ⟨m', rfl⟩ : ∃ m', m = m' + 1 := ⟨m - 1, by omega⟩
    cases hv : Lib.hasPrefix (s.data.toList.drop i) [63] with
    | true =>
      cases hg : nameL (((s.data.toList.drop i).drop 1).takeWhile partB) with
      | true => exact term_var B pb hB s i m' w hp hw hi hs hv hg
      | false => exact term_bad pb s i m' w hp hi hs (by rw [hv]; exact hg)
    | false =>
      cases hg : nameL ((s.data.toList.drop i).takeWhile partB) with
      | false => exact term_bad pb s i m' w hp hi hs (by rw [hv]; exact hg)
      | true =>
        cases hpar : Lib.hasPrefix ((s.data.toList.drop i).drop (wlen (s.data.toList.drop i))) [40] with
        | false => exact term_atom B pb hB s i m' w hp hw hi hs hv hg hpar
        | true => exact term_app B pb hB s i m' w hp hw hi hs hv hg hpar (fun k hk i w => ih k (by omega) i w) hf

/-- the term with a text, or the error -/
def parseE (l : List UInt8) : Tm × Int :=
  match pterm (2 * l.length + 1) l with
  | some (t, []) => if t.valid = 0 then (t, 0) else (.mk 0 ⟨#[]⟩ 0 [], t.valid)
  | _ => (.mk 0 ⟨#[]⟩ 0 [], 2)
def Parsed (l : List UInt8) (w : World) (e : Ending) (w' : World) : Prop :=
  ∃ A cap, e = .returned (.tuple #[(parseE l).1.val A cap, .int .i64 (parseE l).2]) ∧ RepP w' (fun b => w.heap.size ≤ b ∧ b < w'.heap.size) (parseE l).1 A cap ∧ Below w.heap.size w w'

set_option maxHeartbeats 4000000 in
set_option maxRecDepth 100000 in
theorem parse_any (s : ByteArray) (w : World) (hs : s.size ≤ 1000000) (hw : Words w.heap.size w) :
    Calls Tryd.prog 44 #[.string s] w (Parsed s.data.toList w) := by
  obtain ⟨W1, hW1⟩ : ∃ W1, W1 = w.alloc (.cells #[.int .i64 0, .string ⟨#[]⟩, .int .i64 0, .slice none 0 0] 24) := ⟨_, rfl⟩
  obtain ⟨W2, hW2⟩ : ∃ W2, W2 = W1.alloc (.cells #[.string s, .int .i64 0] 74) := ⟨_, rfl⟩
  have s1 : W1.heap.size = w.heap.size + 1 := by rw [hW1]; simp
  have b1 : Below w.heap.size w W1 := by rw [hW1]; exact below1 (Nat.le_refl _) _
  have b2 : Below W1.heap.size W1 W2 := by rw [hW2]; exact below1 (Nat.le_refl _) _
  have hb : Below w.heap.size w W2 := b1.trans (b2.mono (by omega))
  have hp : Prs (w.heap.size + 1) s 0 W2 := by unfold Prs; rw [hW2, ← s1]; exact heap_alloc_new _ _
  have hw2 : Words w.heap.size W2 := hw.keep (fun b h => hb.block b h)
  have hr : W2.heap[w.heap.size]? = some (.cells #[.int .i64 0, .string ⟨#[]⟩, .int .i64 0, .slice none 0 0] 24 (0, 0)) := by
    rw [b2.block _ (by omega), hW1]; exact heap_alloc_new _ _
  have hT := term_any w.heap.size (w.heap.size + 1) (by omega) s hs (2 * s.size + 1) (2 * s.size + 1) (Nat.le_refl _) 0 W2 hp hw2 (Nat.zero_le _) (by omega)
  have HT := Lib.hid hT; clear hT hw2
  have HR := Lib.hid hr; clear hr
  have HB := Lib.hid hb; clear hb
  go_enter Tryd.func44, Tryd.ntmps44
  go_wp2_with fail
  rw [← hW1, ← hW2]
  have hsl := size_list s
  have HSL := Lib.hid hsl; clear hsl
  have hlt : w.heap.size < W2.heap.size := (Array.getElem?_eq_some_iff.1 HR.out).1
  have hs2 : W2.heap.size = w.heap.size + 1 + 1 := by rw [hW2]; simp [s1]
  clear hW1 hW2 s1 b1 b2 hp
  unfold Termed at HT
  rw [List.drop_zero] at HT
  have bad : ∀ W w5 : World, Moves (w.heap.size + 1) W2 w5 → Hid (Below w.heap.size w w5) := fun _ w5 hm =>
    ⟨hm.os.trans HB.out.os, hm.tape.trans HB.out.tape, hm.output.trans HB.out.output, Nat.le_trans HB.out.size hm.size, fun b hb => (hm.same b (by omega) (by omega)).trans (HB.out.block b hb)⟩
  cases hpt : pterm (2 * s.size + 1) s.data.toList with
  | none =>
    have HE : Hid (parseE s.data.toList = (.mk 0 ⟨#[]⟩ 0 [], 2)) := by unfold parseE; rw [← size_list, hpt]; exact rfl
    rw [hpt] at HT
    clear hpt
    refine HT.out.mono ?_
    rintro e w5 ⟨hm, k, nm, so, A, l, c, rfl⟩
    have HBB := bad w w5 hm
    have hr5 : w5.heap[w.heap.size]? = _ := (hm.same _ hlt (by omega)).trans HR.out
    obtain ⟨r0, r1, r2, r3, rf⟩ := box_at hr5
    have hl1 := (Array.getElem?_eq_some_iff.1 hr5).1
    clear hr5 hm
    go_wp2_with fail
    refine bodyPost_ret (v := .tuple #[.agg #[.int .i64 0, .string ⟨#[]⟩, .int .i64 0, .slice none 0 0], .int .i64 2]) ?_ rfl ?_
    · simp [results, Tryd.results44, go_sem, r0, r1, r2, r3, hl1]
    unfold Parsed
    rw [HE.out]
    refine ⟨none, 0, rfl, rep_leaf _ _ _ (Nat.zero_le _), ?_⟩
    refine Below.alloc ?_ (by simp [World.setCell]; omega) _
    iterate 4 refine Below.setCell ?_ (by exact Nat.le_refl _) _
    exact HBB.out
  | some tr =>
    obtain ⟨t, r⟩ := tr
    have hsize := (psize _).1 _ _ _ hpt
    have HE : Hid (parseE s.data.toList = match (some (t, r) : Option (Tm × List UInt8)) with | some (t, []) => if t.valid = 0 then (t, 0) else (.mk 0 ⟨#[]⟩ 0 [], t.valid) | _ => (.mk 0 ⟨#[]⟩ 0 [], 2)) := by unfold parseE; rw [← size_list, hpt]; exact rfl
    rw [hpt] at HT
    clear hpt
    refine HT.out.mono ?_
    rintro e w5 ⟨hm, A, cap, j, rfl, hrep, hd, hj, _, hp⟩
    have HBB := bad w w5 hm
    have hr5 : w5.heap[w.heap.size]? = _ := (hm.same _ hlt (by omega)).trans HR.out
    obtain ⟨r0, r1, r2, r3, rf⟩ := box_at hr5
    have hl1 := (Array.getElem?_eq_some_iff.1 hr5).1
    have hsm := hm.size
    have HR5 := Lib.hid hr5; clear hr5 hm
    have z1 : ∀ o, (w5.alloc o).cell? ⟨w.heap.size + 1, 1, none⟩ = some (.int .i64 j) := fun o => by rw [(below1 (Nat.le_refl _) o).cell (by show w.heap.size + 1 < _; omega)]; exact hp.cells.2.1
    have HREP := Lib.hid hrep; clear hrep hp
    simp only [Tm.val]
    by_cases hjs : j < s.size
    · have hne : r ≠ [] := fun e => by
        rw [e] at hd
        have := congrArg List.length hd
        rw [List.length_drop, ← size_list] at this
        simp at this; omega
      have HE2 : Hid (parseE s.data.toList = (.mk 0 ⟨#[]⟩ 0 [], 2)) := by
        rw [HE.out]
        match r, hne with
        | _ :: _, _ => exact rfl
      clear hne hd
      go_wp2_with fail
      refine bodyPost_ret (v := .tuple #[.agg #[.int .i64 0, .string ⟨#[]⟩, .int .i64 0, .slice none 0 0], .int .i64 2]) ?_ rfl ?_
      · simp [results, Tryd.results44, go_sem, r0, r1, r2, r3, hl1]
      unfold Parsed
      rw [HE2.out]
      refine ⟨none, 0, rfl, rep_leaf _ _ _ (Nat.zero_le _), ?_⟩
      refine Below.alloc ?_ (by simp [World.setCell]; omega) _
      iterate 4 refine Below.setCell ?_ (by exact Nat.le_refl _) _
      exact HBB.out
    · have hr0 : r = [] := by rw [← hd]; exact List.drop_eq_nil_of_le (by rw [← size_list]; omega)
      subst hr0
      rw [← size_list] at hsize
      have hb6 : ∀ o, Below w5.heap.size w5 (w5.alloc o) := fun o => below1 (Nat.le_refl _) o
      have hV := valid_any t A cap (w5.alloc (.cells #[.int .i64 t.kind, .string t.name, .int .i64 t.sort, .slice A t.kids.length cap] 24)) (by omega)
        (RepP.mono (fun b ⟨_, h2⟩ => by simp; omega) (fun q ⟨_, h2⟩ => (hb6 _).cell h2) _ _ _ HREP.out)
      have hbx := heap_alloc_new w5 (.cells #[.int .i64 t.kind, .string t.name, .int .i64 t.sort, .slice A t.kids.length cap] 24)
      have HV := Lib.hid hV; clear hV hd
      simp only [Tm.val] at HV
      clear r0 r1 r2 r3 rf
      go_wp2_with fail
      refine HV.out.mono ?_
      rintro e w7 ⟨rfl, hl⟩
      have hls := hl.size
      rw [World.size_alloc] at hls
      have hr7 : w7.heap[w.heap.size]? = _ := (hl.below.block _ (by rw [World.size_alloc]; omega)).trans (((hb6 _).block _ hl1).trans HR5.out)
      have ht7 : w7.heap[w5.heap.size]? = _ := (hl.below.block _ (by rw [World.size_alloc]; omega)).trans hbx
      obtain ⟨r0, r1, r2, r3, rf⟩ := box_at hr7
      obtain ⟨t0, t1, t2, t3, tf⟩ := box_at ht7
      have HB7 : Hid (Below w.heap.size w w7) := HBB.out.trans (((hb6 _).trans (hl.below.mono (by simp))).mono (by omega))
      have HL := Lib.hid hl; clear hl hr7 ht7 hbx
      have hwne : w5.heap.size ≠ w.heap.size := by omega
      by_cases hv0 : t.valid = 0
      · have HE2 : Hid (parseE s.data.toList = (t, 0)) := by rw [HE.out]; exact if_pos hv0
        go_wp2_with fail
        refine bodyPost_ret (v := .tuple #[.agg #[.int .i64 t.kind, .string t.name, .int .i64 t.sort, .slice A t.kids.length cap], .int .i64 0]) ?_ rfl ?_
        · simp [results, Tryd.results44, go_sem, r0, r1, r2, r3]
        unfold Parsed
        rw [HE2.out]
        refine ⟨A, cap, rfl, ?_, ?_⟩
        · refine RepP.mono ?_ ?_ _ _ _ HREP.out
          · rintro b ⟨h1, h2⟩; exact ⟨by omega, by simp [World.setCell]; omega⟩
          · rintro q ⟨h1, h2⟩
            have hne : ∀ o, (⟨w.heap.size, o, none⟩ : Addr) ≠ q := fun o e => by rw [← e] at h1; simp at h1; omega
            rw [World.cell?_setCell_other _ _ _ _ (hne _), World.cell?_setCell_other _ _ _ _ (hne _), World.cell?_setCell_other _ _ _ _ (hne _), World.cell?_setCell_other _ _ _ _ (hne _)]
            exact (World.cell?_of_block (HL.out.below.block _ (by rw [World.size_alloc]; omega))).trans ((hb6 _).cell h2)
        · iterate 4 refine Below.setCell ?_ (by exact Nat.le_refl _) _
          exact HB7.out
      · have hvb : (t.valid != 0) = true := by simpa using hv0
        have HE2 : Hid (parseE s.data.toList = (.mk 0 ⟨#[]⟩ 0 [], t.valid)) := by rw [HE.out]; exact if_neg hv0
        clear hv0
        go_wp2_with fail
        refine bodyPost_ret (v := .tuple #[.agg #[.int .i64 0, .string ⟨#[]⟩, .int .i64 0, .slice none 0 0], .int .i64 t.valid]) ?_ rfl ?_
        · simp [results, Tryd.results44, go_sem, r0, r1, r2, r3]
        unfold Parsed
        rw [HE2.out]
        refine ⟨none, 0, rfl, rep_leaf _ _ _ (Nat.zero_le _), ?_⟩
        iterate 4 refine Below.setCell ?_ (by exact Nat.le_refl _) _
        exact HB7.out
end Go.Proofs.YtbgkabgbgbebaaaDoor
