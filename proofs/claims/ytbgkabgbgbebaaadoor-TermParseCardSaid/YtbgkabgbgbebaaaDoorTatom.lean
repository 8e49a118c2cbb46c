/- The parser's walk: an atom. -/
import Derived.Test.YtbgkabgbgbebaaaDoorTerm
namespace Go.Proofs.YtbgkabgbgbebaaaDoor
open Go.RowKit Go.Sort

set_option maxHeartbeats 4000000 in
set_option maxRecDepth 100000 in
theorem term_atom (B pb : Nat) (hB : B ≤ pb) (s : ByteArray) (i n : Nat) (w : World) (hp : Prs pb s i w) (hw : Words B w) (hi : i ≤ s.size) (hs : s.size ≤ 1000000)
    (hv : Lib.hasPrefix (s.data.toList.drop i) [63] = false) (hgood : nameL ((s.data.toList.drop i).takeWhile partB) = true) (hpar : Lib.hasPrefix ((s.data.toList.drop i).drop (wlen (s.data.toList.drop i))) [40] = false) :
    Calls Tryd.prog 64 #[.pointer (some ⟨pb, 0, none⟩)] w (Termed pb s i (n + 1) w) := by
  have hlt : pb < w.heap.size := (Array.getElem?_eq_some_iff.1 hp).1
  have hW : Below w.heap.size w (w.alloc (.cells #[.int .i64 0, .string ⟨#[]⟩, .int .i64 0, .slice none 0 0] 24)) := below1 (Nat.le_refl _) _
  have htk := take_any pb s ⟨#[63]⟩ i _ (hp.keep (hW.block pb hlt)) hi (by omega) (by decide)
  have hsl := size_list s
  rw [show (⟨#[63]⟩ : ByteArray).data.toList = [63] from rfl, hv] at htk
  have hpt : pterm (n + 1) (s.data.toList.drop i) = patom ⟨((s.data.toList.drop i).takeWhile partB).toArray⟩ (s.data.toList.drop (i + wlen (s.data.toList.drop i))) := by
    rw [pterm, hv, if_neg (by simp only [Bool.false_eq_true, if_false]; rw [hgood]; simp), if_neg (by simp), if_pos hpar, List.drop_drop]
  have hwl := wlen_pos hgood
  have HSL := Lib.hid hsl; clear hsl
  have HT := Lib.hid htk; clear htk hp
  have HW0 := Lib.hid (show Words B w from hw); clear hw
  have HG := Lib.hid hgood; clear hgood
  have HPT := Lib.hid hpt; clear hpt hv
  have HWL := Lib.hid hwl; clear hwl
  have HAT : Hid (∀ k, (h : k < s.size) → s[k] = s.data.toList[k]'(by rw [← size_list]; exact h)) := fun k h => rfl
  go_enter Tryd.func64, Tryd.ntmps64
  go_wp2_with fail
  refine HT.out.mono ?_
  rintro e w1 ⟨rfl, hm1, hp1⟩
  have hnm := name_any pb s i w1 hp1 hi (by omega)
  have HNM := Lib.hid hnm; clear hnm
  have HM0 := Lib.hid hm1
  have HM1 := Lib.hid ((Moves.of_below hW).trans hm1); clear hm1 hp1
  go_wp2_with fail
  refine HNM.out.mono ?_
  rintro e w2 ⟨x, rfl, hx, hxs, hm2, hp2, hi2⟩
  have hxb : nameL x.data.toList = true := by rw [hx]; exact HG.out
  have hbox : w2.heap[w.heap.size]? = some (.cells #[.int .i64 0, .string ⟨#[]⟩, .int .i64 0, .slice none 0 0] 24 (0, 0)) := by
    rw [hm2.same _ (by have := HM0.out.size; simp at this; omega) (by omega), HM0.out.same _ (by simp) (by omega)]
    exact heap_alloc_new _ _
  have hm02 := HM1.out.trans hm2
  have HX : Hid (pterm (n + 1) (s.data.toList.drop i) = patom x (s.data.toList.drop (i + wlen (s.data.toList.drop i)))) := by
    rw [HPT.out, ← hx, ← bytes_of_list]; exact rfl
  have HMM := Lib.hid hm02; clear hx hm2
  rw [hxb]
  clear hxb
  have hwl' := HWL.out
  obtain ⟨i2, hi2e⟩ : ∃ i2, i2 = i + wlen (s.data.toList.drop i) := ⟨_, rfl⟩
  rw [List.drop_drop, ← hi2e] at hpar
  rw [← hi2e] at HX hp2 hi2
  have hii : i < i2 := by omega
  clear hi2e hwl'
  have hlt2 : w.heap.size < w2.heap.size := (Array.getElem?_eq_some_iff.1 hbox).1
  have HBX := Lib.hid hbox; clear hbox
  have htk2 := take_any pb s ⟨#[40]⟩ i2 w2 hp2 hi2 (by omega) (by decide)
  rw [show (⟨#[40]⟩ : ByteArray).data.toList = [40] from rfl, hpar] at htk2
  have HT2 := Lib.hid htk2; clear htk2 hp2 hpar
  go_wp2_with fail
  refine HT2.out.mono ?_
  rintro e w3 ⟨rfl, hm3, hp3⟩
  have hb3 : w3.heap[w.heap.size]? = _ := (hm3.same _ hlt2 (by omega)).trans HBX.out
  have hs3 := hm3.size
  obtain ⟨q, hq⟩ : ∃ q, q = sorts 0 (s.data.toList.drop i2) := ⟨_, rfl⟩
  have HR : Hid (pterm (n + 1) (s.data.toList.drop i) = if q.2.1 = true then some (.mk 2 x q.1 [], (s.data.toList.drop i2).drop q.2.2) else none) := by
    rw [HX.out, patom, ← hq]; exact rfl
  -- the world with the atom's own block
  obtain ⟨Z, hZ⟩ : ∃ Z, Z = w3.alloc (.cells #[.int .i64 2, .string x, .int .i64 0, .slice none 0 0] 24) := ⟨_, rfl⟩
  have hbz : Below w3.heap.size w3 Z := by rw [hZ]; exact below1 (Nat.le_refl _) _
  have hpz : Prs pb s i2 Z := hp3.keep (hbz.block pb (Array.getElem?_eq_some_iff.1 hp3).1)
  have hmz : Moves pb w Z := (HMM.out.trans hm3).trans (Moves.of_below hbz)
  have hwz : Words B Z := HW0.out.keep (fun b hb => hmz.same b (by omega) (by omega))
  have hsort := sort_of_any B pb hB s i2 0 Z hpz hwz hi2 (by omega)
  rw [← hq] at hsort
  clear hq
  obtain ⟨q1, q2, q3⟩ := q
  have hrz : Z.heap[w.heap.size]? = some (.cells #[.int .i64 0, .string ⟨#[]⟩, .int .i64 0, .slice none 0 0] 24 (0, 0)) := (hbz.block _ (by omega)).trans hb3
  have htz : Z.heap[w3.heap.size]? = some (.cells #[.int .i64 2, .string x, .int .i64 0, .slice none 0 0] 24 (0, 0)) := by rw [hZ]; exact heap_alloc_new _ _
  have HSO := Lib.hid hsort; clear hsort hpz hwz hb3 hbz hm3 hp3
  have HMZ := Lib.hid hmz; clear hmz
  have HRZ := Lib.hid hrz; clear hrz
  have HTZ := Lib.hid htz; clear htz
  go_wp2_with fail
  rw [← hZ]
  clear hZ
  refine HSO.out.mono ?_
  rintro e w5 ⟨rfl, hm5, hp5, hle5⟩
  have hr5 : w5.heap[w.heap.size]? = _ := (hm5.same _ (Array.getElem?_eq_some_iff.1 HRZ.out).1 (by omega)).trans HRZ.out
  have ht5 : w5.heap[w3.heap.size]? = _ := (hm5.same _ (Array.getElem?_eq_some_iff.1 HTZ.out).1 (by omega)).trans HTZ.out
  obtain ⟨r0, r1, r2, r3, rf⟩ := box_at hr5
  obtain ⟨t0, t1, t2, t3, tf⟩ := box_at ht5
  have HM5 := Lib.hid (HMZ.out.trans hm5); clear hm5
  have HP5 := Lib.hid hp5; clear hp5
  clear hr5 ht5
  have hne : w3.heap.size ≠ w.heap.size := by omega
  go_wp2_with fail
  refine bodyPost_ret (v := .tuple #[.agg #[.int .i64 2, .string x, .int .i64 q1, .slice none 0 0], .bool q2]) ?_ rfl ?_
  · simp [results, Tryd.results64, go_sem, r0, r1, r2, r3]
  refine ⟨?_, ?_⟩
  · iterate 4 refine Moves.setNew ?_ (by exact Nat.le_refl _) _
    refine Moves.setNew ?_ (by show w.heap.size ≤ w3.heap.size; omega) _
    exact HM5.out
  · rw [HR.out]
    cases q2 with
    | true =>
      rw [if_pos rfl]
      refine ⟨none, 0, i2 + q3, rfl, rep_leaf _ _ _ (by unfold maxLen; omega), by rw [List.drop_drop], hle5, by omega, ?_⟩
      refine HP5.out.keep ?_
      iterate 4 rw [Below.heap_setCell _ _ _ _ (by show pb ≠ w.heap.size; omega)]
      rw [Below.heap_setCell _ _ _ _ (by show pb ≠ w3.heap.size; omega)]
    | false => exact ⟨_, _, _, _, _, _, rfl⟩
end Go.Proofs.YtbgkabgbgbebaaaDoor
