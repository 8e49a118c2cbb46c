/- The parser's walk: (*parser).term. -/
import Derived.Test.YtbgkabgbgbebaaaDoorPterm
import Derived.Test.YtbgkabgbgbebaaaDoorRow
namespace Go.Proofs.YtbgkabgbgbebaaaDoor
open Go.RowKit Go.Sort

/-- the parser's answer: a term in new memory and how far it was read, or false -/
def Termed (pb : Nat) (s : ByteArray) (i n : Nat) (w : World) (e : Ending) (w' : World) : Prop :=
  Moves pb w w' ∧ match pterm n (s.data.toList.drop i) with
    | none => ∃ k nm so A l c, e = .returned (.tuple #[.agg #[.int .i64 k, .string nm, .int .i64 so, .slice A l c], .bool false])
    | some (t, r) => ∃ A cap j, e = .returned (.tuple #[t.val A cap, .bool true]) ∧ RepP w' (fun b => w.heap.size ≤ b ∧ b < w'.heap.size) t A cap ∧ s.data.toList.drop j = r ∧ j ≤ s.size ∧ i < j ∧ Prs pb s j w'

theorem Prs.keep {pb i : Nat} {s : ByteArray} {w w' : World} (h : Prs pb s i w) (hb : w'.heap[pb]? = w.heap[pb]?) : Prs pb s i w' := by unfold Prs at h ⊢; rw [hb]; exact h

theorem Moves.setNew {pb : Nat} {w w' : World} (h : Moves pb w w') {p : Addr} (hp : w.heap.size ≤ p.block) (v : Value) : Moves pb w (w'.setCell p v) :=
  ⟨by simpa [World.setCell] using h.size, fun b hb hne => (Below.heap_setCell _ _ _ _ (by omega)).trans (h.same b hb hne), h.os, h.tape, h.output⟩

set_option maxHeartbeats 4000000 in
set_option maxRecDepth 100000 in
theorem term_bad (pb : Nat) (s : ByteArray) (i n : Nat) (w : World) (hp : Prs pb s i w) (hi : i ≤ s.size) (hs : s.size ≤ 1000000)
    (hbad : nameL ((if Lib.hasPrefix (s.data.toList.drop i) [63] then (s.data.toList.drop i).drop 1 else s.data.toList.drop i).takeWhile partB) = false) :
    Calls Tryd.prog 64 #[.pointer (some ⟨pb, 0, none⟩)] w (Termed pb s i (n + 1) w) := by
  have hlt : pb < w.heap.size := (Array.getElem?_eq_some_iff.1 hp).1
  have hnone : pterm (n + 1) (s.data.toList.drop i) = none := by rw [pterm, if_pos hbad]
  have hW : Below w.heap.size w (w.alloc (.cells #[.int .i64 0, .string ⟨#[]⟩, .int .i64 0, .slice none 0 0] 24)) := below1 (Nat.le_refl _) _
  have htk := take_any pb s ⟨#[63]⟩ i _ (hp.keep (hW.block pb hlt)) hi (by omega) (by decide)
  have hsl := size_list s
  rw [show (⟨#[63]⟩ : ByteArray).data.toList = [63] from rfl] at htk
  obtain ⟨i1, hi1, hd1, hpre⟩ : ∃ i1, (if Lib.hasPrefix (s.data.toList.drop i) [63] = true then i + (⟨#[63]⟩ : ByteArray).size else i) = i1 ∧ s.data.toList.drop i1 = (if Lib.hasPrefix (s.data.toList.drop i) [63] then (s.data.toList.drop i).drop 1 else s.data.toList.drop i) ∧ i1 ≤ s.size := by
    cases hc : Lib.hasPrefix (s.data.toList.drop i) [63] with
    | true =>
      refine ⟨i + 1, rfl, by simp [List.drop_drop], ?_⟩
      have : s.data.toList.drop i ≠ [] := fun e => by rw [e] at hc; simp [Lib.hasPrefix] at hc
      have := List.length_pos_iff.2 this
      rw [List.length_drop, ← hsl] at this; omega
    | false => exact ⟨i, rfl, by simp, hi⟩
  rw [hi1] at htk
  generalize Lib.hasPrefix (s.data.toList.drop i) [63] = v at *
  rw [← hd1] at hbad
  have HT := Lib.hid htk; clear htk hp
  have HBAD := Lib.hid hbad; clear hbad
  have HN := Lib.hid hnone; clear hnone hd1 hi1
  go_enter Tryd.func64, Tryd.ntmps64
  go_wp2_with fail
  refine HT.out.mono ?_
  rintro e w1 ⟨rfl, hm1, hp1⟩
  have hnm := name_any pb s i1 w1 hp1 hpre (by omega)
  have HNM := Lib.hid hnm; clear hnm
  have HM0 := Lib.hid hm1
  have HM1 := Lib.hid ((Moves.of_below hW).trans hm1); clear hm1 hp1
  go_wp2_with fail
  refine HNM.out.mono ?_
  rintro e w2 ⟨x, rfl, hx, hxs, hm2, hp2, hi2⟩
  have hxb : nameL x.data.toList = false := by rw [hx]; exact HBAD.out
  have hbox : w2.heap[w.heap.size]? = some (.cells #[.int .i64 0, .string ⟨#[]⟩, .int .i64 0, .slice none 0 0] 24 (0, 0)) := by
    rw [hm2.same _ (by have := HM0.out.size; simp at this; omega) (by omega), HM0.out.same _ (by simp) (by omega)]
    exact heap_alloc_new _ _
  obtain ⟨b0, b1, b2, b3, bf⟩ := box_at hbox
  have HM2 := Lib.hid (HM1.out.trans hm2); clear hx hm2 hp2 hi2 hbox
  rw [hxb]
  clear hxb
  go_wp2_with fail
  refine bodyPost_ret (v := .tuple #[.agg #[.int .i64 0, .string ⟨#[]⟩, .int .i64 0, .slice none 0 0], .bool false]) ?_ rfl ?_
  · simp [results, Tryd.results64, go_sem, b0, b1, b2, b3]
  refine ⟨?_, ?_⟩
  · iterate 4 refine Moves.setNew ?_ (by exact Nat.le_refl _) _
    exact HM2.out
  · rw [HN.out]
    exact ⟨_, _, _, _, _, _, rfl⟩

theorem rep_leaf {w : World} {P : Nat → Prop} (k so : Int) (x : ByteArray) (hx : x.size ≤ maxLen) : RepP w P (.mk k x so []) none 0 := by
  rw [RepP_mk]; exact ⟨hx, Nat.le_refl _, Nat.zero_le _, .inl rfl⟩
theorem prefix_at (s : ByteArray) (j : Nat) (b : UInt8) (h : j < s.size) (hb : s.data.toList[j]'(by rw [← size_list]; exact h) = b) (c : UInt8) : Lib.hasPrefix (s.data.toList.drop j) [c] = (c == b) := by
  have hl : j < s.data.toList.length := by rw [← size_list]; exact h
  rw [List.drop_eq_getElem_cons hl, hb]
  simp [Lib.hasPrefix, List.isPrefixOf]
theorem prefix_end (s : ByteArray) (j : Nat) (h : s.size ≤ j) (c : UInt8) : Lib.hasPrefix (s.data.toList.drop j) [c] = false := by
  rw [List.drop_eq_nil_of_le (by rw [← size_list]; exact h)]; rfl
theorem wlen_pos {l : List UInt8} (h : nameL (l.takeWhile partB) = true) : 0 < wlen l := by
  unfold wlen
  cases e : l.takeWhile partB with
  | nil => rw [e] at h; simp [nameL] at h
  | cons _ _ => simp

set_option maxHeartbeats 4000000 in
set_option maxRecDepth 100000 in
theorem term_var (B pb : Nat) (hB : B ≤ pb) (s : ByteArray) (i n : Nat) (w : World) (hp : Prs pb s i w) (hw : Words B w) (hi : i ≤ s.size) (hs : s.size ≤ 1000000)
    (hv : Lib.hasPrefix (s.data.toList.drop i) [63] = true) (hgood : nameL (((s.data.toList.drop i).drop 1).takeWhile partB) = true) :
    Calls Tryd.prog 64 #[.pointer (some ⟨pb, 0, none⟩)] w (Termed pb s i (n + 1) w) := by
  have hlt : pb < w.heap.size := (Array.getElem?_eq_some_iff.1 hp).1
  have hW : Below w.heap.size w (w.alloc (.cells #[.int .i64 0, .string ⟨#[]⟩, .int .i64 0, .slice none 0 0] 24)) := below1 (Nat.le_refl _) _
  have htk := take_any pb s ⟨#[63]⟩ i _ (hp.keep (hW.block pb hlt)) hi (by omega) (by decide)
  have hsl := size_list s
  rw [show (⟨#[63]⟩ : ByteArray).data.toList = [63] from rfl, hv] at htk
  have hi1 : i + 1 ≤ s.size := by
    have : s.data.toList.drop i ≠ [] := fun e => by rw [e] at hv; simp [Lib.hasPrefix] at hv
    have := List.length_pos_iff.2 this
    rw [List.length_drop, ← hsl] at this; omega
  have hd1 : (s.data.toList.drop i).drop 1 = s.data.toList.drop (i + 1) := by rw [List.drop_drop]
  rw [hd1] at hgood
  have hpt : pterm (n + 1) (s.data.toList.drop i) = pvar ⟨((s.data.toList.drop (i + 1)).takeWhile partB).toArray⟩ (s.data.toList.drop (i + 1 + wlen (s.data.toList.drop (i + 1)))) := by
    rw [pterm, hv, if_neg (by simp only [if_true]; rw [hd1, hgood]; simp), if_pos rfl, hd1, List.drop_drop]
  have hwl := wlen_pos hgood
  have HSL := Lib.hid hsl; clear hsl
  have HT := Lib.hid htk; clear htk hp
  have HW0 := Lib.hid (show Words B w from hw); clear hw
  have HG := Lib.hid hgood; clear hgood
  have HPT := Lib.hid hpt; clear hpt hv hd1
  have HWL := Lib.hid hwl; clear hwl
  have HAT : Hid (∀ k, (h : k < s.size) → s[k] = s.data.toList[k]'(by rw [← size_list]; exact h)) := fun k h => rfl
  go_enter Tryd.func64, Tryd.ntmps64
  go_wp2_with fail
  refine HT.out.mono ?_
  rintro e w1 ⟨rfl, hm1, hp1⟩
  have hnm := name_any pb s (i + 1) w1 hp1 hi1 (by omega)
  have HNM := Lib.hid hnm; clear hnm
  have HM0 := Lib.hid hm1
  have HM1 := Lib.hid ((Moves.of_below hW).trans hm1); clear hm1 hp1
  go_wp2_with fail
  refine HNM.out.mono ?_
  rintro e w2 ⟨x, rfl, hx, hxs, hm2, hp2, hi2⟩
  have hxb : nameL x.data.toList = true := by rw [hx]; exact HG.out
  have hbox : w2.heap[w.heap.size]? = some (.cells #[.int .i64 0, .string ⟨#[]⟩, .int .i64 0, .slice none 0 0] 24 (0, 0)) := by
    rw [hm2.same _ (by have := HM0.out.size; simp at this; omega) (by omega), HM0.out.same _ (by simp) (by omega)]
    exact heap_alloc_new _ _
  have hm02 := HM1.out.trans hm2
  have HX : Hid (pterm (n + 1) (s.data.toList.drop i) = pvar x (s.data.toList.drop (i + 1 + wlen (s.data.toList.drop (i + 1))))) := by
    rw [HPT.out, ← hx, ← bytes_of_list]; exact rfl
  have HMM := Lib.hid hm02; clear hx hm2
  rw [hxb]
  clear hxb
  have hwl' := HWL.out
  obtain ⟨i2, hi2e⟩ : ∃ i2, i2 = i + 1 + wlen (s.data.toList.drop (i + 1)) := ⟨_, rfl⟩
  rw [← hi2e] at HX hp2 hi2
  have hii : i < i2 := by omega
  clear hi2e hwl'
  have hlt2 : w.heap.size < w2.heap.size := (Array.getElem?_eq_some_iff.1 hbox).1
  have HBX := Lib.hid hbox; clear hbox
  have HP2 := Lib.hid hp2; clear hp2
  -- the world with the variable's own block
  go_wp2_with fail
  obtain ⟨W3, hW3⟩ : ∃ W3, W3 = w2.alloc (.cells #[.int .i64 1, .string x, .int .i64 0, .slice none 0 0] 24) := ⟨_, rfl⟩
  rw [← hW3]
  have hb3 : Below w2.heap.size w2 W3 := by rw [hW3]; exact below1 (Nat.le_refl _) _
  have hp3 : Prs pb s i2 W3 := HP2.out.keep (hb3.block pb (by omega))
  have hr3 : W3.heap[w.heap.size]? = some (.cells #[.int .i64 0, .string ⟨#[]⟩, .int .i64 0, .slice none 0 0] 24 (0, 0)) := (hb3.block _ hlt2).trans HBX.out
  have ht3 : W3.heap[w2.heap.size]? = some (.cells #[.int .i64 1, .string x, .int .i64 0, .slice none 0 0] 24 (0, 0)) := by rw [hW3]; exact heap_alloc_new _ _
  have hm3 : Moves pb w W3 := HMM.out.trans (Moves.of_below hb3)
  clear hW3 hb3
  obtain ⟨z0, z1, z2⟩ := hp3.cells
  obtain ⟨r0, r1, r2, r3, rf⟩ := box_at hr3
  obtain ⟨t0, t1, t2, t3, tf⟩ := box_at ht3
  have HP3 := Lib.hid hp3; clear hp3
  have HM3 := Lib.hid hm3; clear hm3
  have HR3 := Lib.hid hr3; clear hr3
  have HT3 := Lib.hid ht3; clear ht3
  have i0 : (0 : Int) ≤ (i2 : Int) := Int.natCast_nonneg _
  by_cases hk : i2 < s.size
  · have hd : decide ((i2 : Int) < (s.size : Int)) = true := decide_eq_true (by omega)
    have hat := HAT.out i2 hk
    obtain ⟨b, hb⟩ : ∃ b, b = s.data.toList[i2]'(by rw [← size_list]; exact hk) := ⟨_, rfl⟩
    rw [← hb] at hat
    have HPX := Lib.hid (prefix_at s i2 b hk hb.symm 58)
    clear hb
    by_cases hb58 : b = 58
    · have hbc : ((b.toNat : Int) == 58) = true := by rw [hb58]; decide
      have hpx : Lib.hasPrefix (s.data.toList.drop i2) [58] = true := by rw [HPX.out, hb58]; decide
      have hst := fun X (h1 : Prs pb s i2 X) (h2 : Words B X) => sort_of_any B pb hB s i2 1 X h1 h2 hi2 (by omega)
      have HST := Lib.hid hst; clear hst
      obtain ⟨q, hq⟩ : ∃ q, q = sorts 1 (s.data.toList.drop i2) := ⟨_, rfl⟩
      rw [← hq] at HST
      have HR : Hid (pterm (n + 1) (s.data.toList.drop i) = if q.2.1 = true then some (.mk 1 x q.1 [], (s.data.toList.drop i2).drop q.2.2) else none) := by
        rw [HX.out, pvar, if_pos hpx, ← hq]; exact rfl
      clear hpx hb58 HPX hq
      obtain ⟨q1, q2, q3⟩ := q
      go_quiet (fail)
      have hpz : Prs pb s i2 (W3.drewN nq) := HP3.out
      have hwz : Words B (W3.drewN nq) := HW0.out.keep (fun b hb => HM3.out.same b (by omega) (by omega))
      have hmz : Moves pb w (W3.drewN nq) := HM3.out.trans (Moves.of_below ((Lay.refl _ _).drewN _).below)
      have hrz : (W3.drewN nq).heap[w.heap.size]? = some (.cells #[.int .i64 0, .string ⟨#[]⟩, .int .i64 0, .slice none 0 0] 24 (0, 0)) := HR3.out
      have htz : (W3.drewN nq).heap[w2.heap.size]? = some (.cells #[.int .i64 1, .string x, .int .i64 0, .slice none 0 0] 24 (0, 0)) := HT3.out
      have hsort := HST.out _ hpz hwz
      clear t0 t1 t2 t3 tf r0 r1 r2 r3 rf z0 z1 z2 hpz hwz
      have HSO := Lib.hid hsort; clear hsort
      have HMZ := Lib.hid hmz; clear hmz
      have HRZ := Lib.hid hrz; clear hrz
      have HTZ := Lib.hid htz; clear htz
      generalize W3.drewN nq = Z at *
      go_wp2_with fail
      refine HSO.out.mono ?_
      rintro e w5 ⟨rfl, hm5, hp5, hle5⟩
      have hr5 : w5.heap[w.heap.size]? = _ := (hm5.same _ (Array.getElem?_eq_some_iff.1 HRZ.out).1 (by omega)).trans HRZ.out
      have ht5 : w5.heap[w2.heap.size]? = _ := (hm5.same _ (Array.getElem?_eq_some_iff.1 HTZ.out).1 (by omega)).trans HTZ.out
      obtain ⟨r0, r1, r2, r3, rf⟩ := box_at hr5
      obtain ⟨t0, t1, t2, t3, tf⟩ := box_at ht5
      have HM5 := Lib.hid (HMZ.out.trans hm5); clear hm5
      have HP5 := Lib.hid hp5; clear hp5
      clear hr5 ht5
      have hne : w2.heap.size ≠ w.heap.size := by omega
      go_wp2_with fail
      refine bodyPost_ret (v := .tuple #[.agg #[.int .i64 1, .string x, .int .i64 q1, .slice none 0 0], .bool q2]) ?_ rfl ?_
      · simp [results, Tryd.results64, go_sem, r0, r1, r2, r3]
      refine ⟨?_, ?_⟩
      · iterate 4 refine Moves.setNew ?_ (by exact Nat.le_refl _) _
        refine Moves.setNew ?_ (by show w.heap.size ≤ w2.heap.size; omega) _
        exact HM5.out
      · rw [HR.out]
        cases q2 with
        | true =>
          rw [if_pos rfl]
          refine ⟨none, 0, i2 + q3, rfl, rep_leaf _ _ _ (by unfold maxLen; omega), by rw [List.drop_drop], hle5, by omega, ?_⟩
          refine HP5.out.keep ?_
          iterate 4 rw [Below.heap_setCell _ _ _ _ (by show pb ≠ w.heap.size; omega)]
          rw [Below.heap_setCell _ _ _ _ (by show pb ≠ w2.heap.size; omega)]
        | false => exact ⟨_, _, _, _, _, _, rfl⟩
    · have hbc : ((b.toNat : Int) == 58) = false := by
        simp only [beq_eq_false_iff_ne, ne_eq]
        intro h; apply hb58; apply UInt8.toNat_inj.1; show b.toNat = 58; omega
      have hpx : Lib.hasPrefix (s.data.toList.drop i2) [58] = false := by rw [HPX.out]; simpa [beq_eq_false_iff_ne] using fun h => hb58 h.symm
      have HR : Hid (pterm (n + 1) (s.data.toList.drop i) = some (.mk 1 x 0 [], s.data.toList.drop i2)) := by
        rw [HX.out, pvar, hpx]; exact rfl
      clear hpx HPX
      go_quiet (fail)
      go_wp2_with fail
      refine bodyPost_ret (v := .tuple #[.agg #[.int .i64 1, .string x, .int .i64 0, .slice none 0 0], .bool true]) ?_ rfl ?_
      · simp [results, Tryd.results64, go_sem, r0, r1, r2, r3]
      refine ⟨?_, ?_⟩
      · iterate 4 refine Moves.setNew ?_ (by exact Nat.le_refl _) _
        exact HM3.out.trans (Moves.of_below ((Lay.refl _ _).drewN _).below)
      · rw [HR.out]
        refine ⟨none, 0, i2, rfl, rep_leaf _ _ _ (by unfold maxLen; omega), rfl, hi2, hii, ?_⟩
        refine HP3.out.keep ?_
        iterate 4 rw [Below.heap_setCell _ _ _ _ (by show pb ≠ w.heap.size; omega)]
        rfl
  · have hd : decide ((i2 : Int) < (s.size : Int)) = false := decide_eq_false (by omega)
    have HPX := Lib.hid (prefix_end s i2 (by omega) 58)
    have HR : Hid (pterm (n + 1) (s.data.toList.drop i) = some (.mk 1 x 0 [], s.data.toList.drop i2)) := by
      rw [HX.out, pvar, HPX.out]; exact rfl
    go_quiet (fail)
    go_wp2_with fail
    refine bodyPost_ret (v := .tuple #[.agg #[.int .i64 1, .string x, .int .i64 0, .slice none 0 0], .bool true]) ?_ rfl ?_
    · simp [results, Tryd.results64, go_sem, r0, r1, r2, r3]
    refine ⟨?_, ?_⟩
    · iterate 4 refine Moves.setNew ?_ (by exact Nat.le_refl _) _
      exact HM3.out.trans (Moves.of_below ((Lay.refl _ _).drewN _).below)
    · rw [HR.out]
      refine ⟨none, 0, i2, rfl, rep_leaf _ _ _ (by unfold maxLen; omega), rfl, hi2, hii, ?_⟩
      refine HP3.out.keep ?_
      iterate 4 rw [Below.heap_setCell _ _ _ _ (by show pb ≠ w.heap.size; omega)]
      rfl
end Go.Proofs.YtbgkabgbgbebaaaDoor
