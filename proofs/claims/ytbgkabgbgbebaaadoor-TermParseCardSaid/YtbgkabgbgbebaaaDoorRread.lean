/- The reference's read. -/
import Derived.Test.YtbgkabgbgbebaaaDoorRleaf
namespace Go.Proofs.YtbgkabgbgbebaaaDoor
open Go.RowKit Go.Sort

theorem leaf_any (tk : Int) (hk : tk = 1 ∨ tk = 2) (nm : ByteArray) (hnm : nm.size ≤ 24) (s : ByteArray) (hs : s.size ≤ 1000000) (w : World) :
    Calls Tryd.prog 82 #[.agg #[.int .i64 tk, .string nm, .int .i64 0, .slice none 0 0], .string s] w (Leafed (rleaf tk nm s.data.toList) w) := by
  by_cases h : Lib.hasPrefix s.data.toList [58] = true
  · obtain ⟨r, hr⟩ := prefix_colon h
    exact leaf_colon tk hk nm hnm s hs r hr w
  · exact leaf_none tk hk nm hnm s hs (by simpa using h) w
theorem heap_set0 {W : World} {B : Nat} {a b c d u : Value} {T : TypeId} (h : W.heap[B]? = some (.cells #[a, b, c, d] T (0, 0))) :
    (W.setCell ⟨B, 0, none⟩ u).heap[B]? = some (.cells #[u, b, c, d] T (0, 0)) := by
  simp [World.setCell, Array.getElem?_modify, h]
theorem heap_set1 {W : World} {B : Nat} {a b c d u : Value} {T : TypeId} (h : W.heap[B]? = some (.cells #[a, b, c, d] T (0, 0))) :
    (W.setCell ⟨B, 1, none⟩ u).heap[B]? = some (.cells #[a, u, c, d] T (0, 0)) := by
  simp [World.setCell, Array.getElem?_modify, h]
/-- the reader's two blocks: what it will give back, and what it fills -/
structure Rd (w : World) (k : Int) (x : ByteArray) (v : Value) (Y : World) : Prop where
  below : Below w.heap.size w Y
  res : Y.heap[w.heap.size]? = some (.cells #[.int .i64 0, .string ⟨#[]⟩, .int .i64 0, .slice none 0 0] 24 (0, 0))
  box : Y.heap[w.heap.size + 1]? = some (.cells #[.int .i64 k, .string x, .int .i64 0, v] 24 (0, 0))
theorem Rd.lt {w Y : World} {k : Int} {x : ByteArray} {v : Value} (h : Rd w k x v Y) : w.heap.size + 1 < Y.heap.size := (Array.getElem?_eq_some_iff.1 h.box).1
theorem Rd.go {w Y Z : World} {k : Int} {x : ByteArray} {v : Value} (h : Rd w k x v Y) (hb : Below Y.heap.size Y Z) : Rd w k x v Z :=
  ⟨h.below.trans (hb.mono (by have := h.lt; omega)), (hb.block _ (by have := h.lt; omega)).trans h.res, (hb.block _ h.lt).trans h.box⟩
theorem Rd.kind {w Y : World} {k : Int} {x : ByteArray} {v : Value} (h : Rd w k x v Y) (k' : Int) : Rd w k' x v (Y.setCell ⟨w.heap.size + 1, 0, none⟩ (.int .i64 k')) :=
  ⟨h.below.setCell (p := ⟨w.heap.size + 1, 0, none⟩) (Nat.le_succ _) _, (Below.heap_setCell _ _ _ _ (by show w.heap.size ≠ w.heap.size + 1; omega)).trans h.res, heap_set0 h.box⟩
theorem Rd.name {w Y : World} {k : Int} {x : ByteArray} {v : Value} (h : Rd w k x v Y) (x' : ByteArray) : Rd w k x' v (Y.setCell ⟨w.heap.size + 1, 1, none⟩ (.string x')) :=
  ⟨h.below.setCell (p := ⟨w.heap.size + 1, 1, none⟩) (Nat.le_succ _) _, (Below.heap_setCell _ _ _ _ (by show w.heap.size ≠ w.heap.size + 1; omega)).trans h.res, heap_set1 h.box⟩
theorem Rd.slot {w Y : World} {k : Int} {x : ByteArray} {v : Value} (h : Rd w k x v Y) (v' : Value) : Rd w k x v' (Y.setCell ⟨w.heap.size + 1, 3, none⟩ v') :=
  ⟨h.below.setCell (p := ⟨w.heap.size + 1, 3, none⟩) (Nat.le_succ _) _, (Below.heap_setCell _ _ _ _ (by show w.heap.size ≠ w.heap.size + 1; omega)).trans h.res, heap_set3 h.box⟩
theorem Rd.new (w : World) (k : Int) : Rd w k ⟨#[]⟩ (.slice none 0 0) ((w.alloc (.cells #[.int .i64 0, .string ⟨#[]⟩, .int .i64 0, .slice none 0 0] 24)).alloc (.cells #[.int .i64 k, .string ⟨#[]⟩, .int .i64 0, .slice none 0 0] 24)) := by
  have b1 : Below w.heap.size w (w.alloc (.cells #[.int .i64 0, .string ⟨#[]⟩, .int .i64 0, .slice none 0 0] 24)) := below1 (Nat.le_refl _) _
  have s1 : (w.alloc (.cells #[.int .i64 0, .string ⟨#[]⟩, .int .i64 0, .slice none 0 0] 24)).heap.size = w.heap.size + 1 := by simp
  have b2 := below1 (Nat.le_refl (w.alloc (.cells #[.int .i64 0, .string ⟨#[]⟩, .int .i64 0, .slice none 0 0] 24)).heap.size) (.cells #[.int .i64 k, .string ⟨#[]⟩, .int .i64 0, .slice none 0 0] 24)
  refine ⟨b1.trans (b2.mono (by omega)), ?_, ?_⟩
  · rw [b2.block _ (by omega)]; exact heap_alloc_new _ _
  · rw [← s1]; exact heap_alloc_new _ _
/-- the text behind the question mark, if there is one -/
theorem mark_rest (s : ByteArray) (h : Lib.hasPrefix s.data.toList [63] = true) : ∃ h0 : 0 < s.size, s[0] = 63 ∧ (s.extract 1 s.size).data.toList = s.data.toList.drop 1 ∧ (s.extract 1 s.size).size + 1 = s.size := by
  have h1 := prefix_cons h
  obtain ⟨h0, hb⟩ := first_byte h1.symm
  refine ⟨h0, hb, extract_rest s 1, ?_⟩
  have e1 := size_list (s.extract 1 s.size)
  have e2 := size_list s
  rw [extract_rest, List.length_drop] at e1
  omega
theorem no_byte (s : ByteArray) (c : UInt8) (h : Lib.hasPrefix s.data.toList [c] = false) : s.size = 0 ∨ ∃ h0 : 0 < s.size, s[0] ≠ c := by
  cases hl : s.data.toList with
  | nil => left; rw [size_list, hl]; rfl
  | cons b r =>
    obtain ⟨h0, hb⟩ := first_byte hl
    right
    refine ⟨h0, fun e => ?_⟩
    rw [hb] at e; subst e; rw [hl, prefix_one] at h; cases h
theorem mark_none (s : ByteArray) (h : Lib.hasPrefix s.data.toList [63] = false) : s.size = 0 ∨ ∃ h0 : 0 < s.size, s[0] ≠ 63 := by
  cases hl : s.data.toList with
  | nil => left; rw [size_list, hl]; rfl
  | cons b r =>
    obtain ⟨h0, hb⟩ := first_byte hl
    right
    refine ⟨h0, fun e => ?_⟩
    rw [hb] at e; subst e; rw [hl, prefix_one] at h; cases h
set_option maxHeartbeats 4000000 in
set_option maxRecDepth 100000 in
theorem read_bad (s : ByteArray) (d n : Nat) (hs : s.size ≤ 1000000) (hd : d ≤ 1000000) (w : World)
    (hbad : nameL ((if Lib.hasPrefix s.data.toList [63] = true then s.data.toList.drop 1 else s.data.toList).takeWhile partB) = false ∨ d = 0) :
    Calls Tryd.prog 65 #[.string s, .int .i64 d] w (Leafed (rterm d (n + 1) s.data.toList) w) := by
  have HR : Hid (rterm d (n + 1) s.data.toList = none) := by
    rcases hbad with h | h
    · unfold rterm; rw [pterm, if_pos h]; exact rfl
    · rw [h]; exact rterm_zero _ _

  obtain ⟨W2, hW2⟩ : ∃ W2, W2 = (w.alloc (.cells #[.int .i64 0, .string ⟨#[]⟩, .int .i64 0, .slice none 0 0] 24)).alloc (.cells #[.int .i64 2, .string ⟨#[]⟩, .int .i64 0, .slice none 0 0] 24) := ⟨_, rfl⟩
  have hrd0 : Rd w 2 ⟨#[]⟩ (.slice none 0 0) W2 := by rw [hW2]; exact Rd.new w 2
  have HRD := Lib.hid hrd0; clear hrd0
  have HW := Lib.hid hW2; clear hW2
  cases hv : Lib.hasPrefix s.data.toList [63] with
  | true =>
    obtain ⟨h0, hb, hstl, hsts⟩ := mark_rest s hv
    have q0 : decide (0 < s.size) = true := decide_eq_true h0
    have q1 : (0 : Int) < (s.size : Int) := by omega
    have q2 : (1 : Int) ≤ (s.size : Int) := by omega
    obtain ⟨st, hst⟩ : ∃ st, st = s.extract 1 s.size := ⟨_, rfl⟩
    rw [← hst] at hstl hsts
    have HST := Lib.hid hst; clear hst
    obtain ⟨Y, hY⟩ : ∃ Y, Y = (w.alloc (.cells #[.int .i64 0, .string ⟨#[]⟩, .int .i64 0, .slice none 0 0] 24)).alloc (.cells #[.int .i64 1, .string ⟨#[]⟩, .int .i64 0, .slice none 0 0] 24) := ⟨_, rfl⟩
    have hrd : Rd w 1 ⟨#[]⟩ (.slice none 0 0) Y := by rw [hY]; exact Rd.new w 1
    have HY := Lib.hid hY; clear hY HRD HW

    have hssz : st.size ≤ 1000000 := by omega
    have NM := Lib.hid (rname_any st Y (by omega))

    go_enter Tryd.func65, Tryd.ntmps65
    go_wp2_with fail

    rw [← HST.out, ← HY.out]
    clear q0 q1 q2 hb

    refine NM.out.mono ?_; clear NM
    rintro e w1 ⟨x, rfl, hx, hxs, hw1⟩
    obtain rfl := hw1.symm
    clear hw1
    obtain ⟨Z, hZ⟩ : ∃ Z, Z = Y.setCell ⟨w.heap.size + 1, 1, none⟩ (.string x) := ⟨_, rfl⟩
    have hrz : Rd w 1 x (.slice none 0 0) Z := by rw [hZ]; exact hrd.name x
    obtain ⟨a0, a1, a2, a3, af⟩ := box_at hrd.box
    have hlt1 := hrd.lt
    have hxz : x.size ≤ st.size := by rw [hxs]; have := wlen_le st.data.toList; rw [← size_list] at this; exact this
    have HRZ := Lib.hid hrz; clear hrz hrd
    have HZ := Lib.hid hZ; clear hZ
    have HX := Lib.hid hx; clear hx
    have HXS := Lib.hid hxs; clear hxs
    have IN := Lib.hid (risName_any x Z (by unfold maxLen; omega))
    go_wp2_with fail
    rw [← HZ.out]
    clear a0 a1 a2 a3 af HZ
    obtain ⟨a0, a1, a2, a3, af⟩ := box_at HRZ.out.box
    have hlt2 := HRZ.out.lt

    refine IN.out.mono ?_; clear IN
    rintro e w1 ⟨rfl, hw1⟩
    obtain rfl := hw1.symm
    clear hw1
    have fin : ∀ Q : World, Hid (Leafed none w (.returned (.tuple #[.agg #[.int .i64 1, .string x, .int .i64 0, .slice none 0 0], .string st, .bool false])) ((((Z.setCell ⟨w.heap.size, 0, none⟩ (.int .i64 1)).setCell ⟨w.heap.size, 1, none⟩ (.string x)).setCell ⟨w.heap.size, 2, none⟩ (.int .i64 0)).setCell ⟨w.heap.size, 3, none⟩ (.slice none 0 0))) := fun _ =>
      ⟨setFour_below HRZ.out.below (Nat.le_refl _), _, _, _, _, _, _, _, rfl⟩
    obtain ⟨c0, c1, c2, c3, cf⟩ := box_at HRZ.out.res
    cases hnx : nameL x.data.toList with
    | false =>
      go_wp2_with fail
      refine bodyPost_ret (v := .tuple #[.agg #[.int .i64 1, .string x, .int .i64 0, .slice none 0 0], .string st, .bool false]) ?_ rfl ?_
      · simp [results, Tryd.results65, go_sem, c0, c1, c2, c3]
      rw [HR.out]
      exact (fin Z).out
    | true =>
      have hd0 : d = 0 := by
        rcases hbad with h | h
        · rw [if_pos hv] at h
          rw [← hstl, ← HX.out, hnx] at h; cases h
        · exact h
      subst hd0
      go_wp2_with fail
      refine bodyPost_ret (v := .tuple #[.agg #[.int .i64 1, .string x, .int .i64 0, .slice none 0 0], .string st, .bool false]) ?_ rfl ?_
      · simp [results, Tryd.results65, go_sem, c0, c1, c2, c3]
      rw [HR.out]
      exact (fin Z).out
  | false =>
    rcases mark_none s hv with hm | hm
    · have hrd := HRD.out

      have q0 : decide (0 < s.size) = false := decide_eq_false (by omega)

      have hssz : s.size ≤ 1000000 := by omega
      have NM := Lib.hid (rname_any s W2 (by omega))

      go_enter Tryd.func65, Tryd.ntmps65
      go_wp2_with fail
      rw [← HW.out]
      clear q0

      refine NM.out.mono ?_; clear NM
      rintro e w1 ⟨x, rfl, hx, hxs, hw1⟩
      obtain rfl := hw1.symm
      clear hw1
      obtain ⟨Z, hZ⟩ : ∃ Z, Z = W2.setCell ⟨w.heap.size + 1, 1, none⟩ (.string x) := ⟨_, rfl⟩
      have hrz : Rd w 2 x (.slice none 0 0) Z := by rw [hZ]; exact hrd.name x
      obtain ⟨a0, a1, a2, a3, af⟩ := box_at hrd.box
      have hlt1 := hrd.lt
      have hxz : x.size ≤ s.size := by rw [hxs]; have := wlen_le s.data.toList; rw [← size_list] at this; exact this
      have HRZ := Lib.hid hrz; clear hrz hrd
      have HZ := Lib.hid hZ; clear hZ
      have HX := Lib.hid hx; clear hx
      have HXS := Lib.hid hxs; clear hxs
      have IN := Lib.hid (risName_any x Z (by unfold maxLen; omega))
      go_wp2_with fail
      rw [← HZ.out]
      clear a0 a1 a2 a3 af HZ
      obtain ⟨a0, a1, a2, a3, af⟩ := box_at HRZ.out.box
      have hlt2 := HRZ.out.lt

      refine IN.out.mono ?_; clear IN
      rintro e w1 ⟨rfl, hw1⟩
      obtain rfl := hw1.symm
      clear hw1
      have fin : ∀ Q : World, Hid (Leafed none w (.returned (.tuple #[.agg #[.int .i64 2, .string x, .int .i64 0, .slice none 0 0], .string s, .bool false])) ((((Z.setCell ⟨w.heap.size, 0, none⟩ (.int .i64 2)).setCell ⟨w.heap.size, 1, none⟩ (.string x)).setCell ⟨w.heap.size, 2, none⟩ (.int .i64 0)).setCell ⟨w.heap.size, 3, none⟩ (.slice none 0 0))) := fun _ =>
        ⟨setFour_below HRZ.out.below (Nat.le_refl _), _, _, _, _, _, _, _, rfl⟩
      obtain ⟨c0, c1, c2, c3, cf⟩ := box_at HRZ.out.res
      cases hnx : nameL x.data.toList with
      | false =>
        go_wp2_with fail
        refine bodyPost_ret (v := .tuple #[.agg #[.int .i64 2, .string x, .int .i64 0, .slice none 0 0], .string s, .bool false]) ?_ rfl ?_
        · simp [results, Tryd.results65, go_sem, c0, c1, c2, c3]
        rw [HR.out]
        exact (fin Z).out
      | true =>
        have hd0 : d = 0 := by
          rcases hbad with h | h
          · rw [hv, if_neg (by simp)] at h
            rw [← HX.out, hnx] at h; cases h
          · exact h
        subst hd0
        go_wp2_with fail
        refine bodyPost_ret (v := .tuple #[.agg #[.int .i64 2, .string x, .int .i64 0, .slice none 0 0], .string s, .bool false]) ?_ rfl ?_
        · simp [results, Tryd.results65, go_sem, c0, c1, c2, c3]
        rw [HR.out]
        exact (fin Z).out
    · have hrd := HRD.out

      obtain ⟨h0, hb⟩ := hm
      have q0 : decide (0 < s.size) = true := decide_eq_true h0
      have q1 : (0 : Int) < (s.size : Int) := by omega
      obtain ⟨b, hbb⟩ : ∃ b, b = s[0] := ⟨_, rfl⟩
      rw [← hbb] at hb
      have hsb := hbb.symm
      clear hbb
      obtain ⟨e1, e2⟩ := byte_ne 63 63 rfl hb

      have hssz : s.size ≤ 1000000 := by omega
      have NM := Lib.hid (rname_any s W2 (by omega))

      go_enter Tryd.func65, Tryd.ntmps65
      go_wp2_with fail
      rw [← HW.out]
      clear q0 q1 e1 e2 hsb

      refine NM.out.mono ?_; clear NM
      rintro e w1 ⟨x, rfl, hx, hxs, hw1⟩
      obtain rfl := hw1.symm
      clear hw1
      obtain ⟨Z, hZ⟩ : ∃ Z, Z = W2.setCell ⟨w.heap.size + 1, 1, none⟩ (.string x) := ⟨_, rfl⟩
      have hrz : Rd w 2 x (.slice none 0 0) Z := by rw [hZ]; exact hrd.name x
      obtain ⟨a0, a1, a2, a3, af⟩ := box_at hrd.box
      have hlt1 := hrd.lt
      have hxz : x.size ≤ s.size := by rw [hxs]; have := wlen_le s.data.toList; rw [← size_list] at this; exact this
      have HRZ := Lib.hid hrz; clear hrz hrd
      have HZ := Lib.hid hZ; clear hZ
      have HX := Lib.hid hx; clear hx
      have HXS := Lib.hid hxs; clear hxs
      have IN := Lib.hid (risName_any x Z (by unfold maxLen; omega))
      go_wp2_with fail
      rw [← HZ.out]
      clear a0 a1 a2 a3 af HZ
      obtain ⟨a0, a1, a2, a3, af⟩ := box_at HRZ.out.box
      have hlt2 := HRZ.out.lt

      refine IN.out.mono ?_; clear IN
      rintro e w1 ⟨rfl, hw1⟩
      obtain rfl := hw1.symm
      clear hw1
      have fin : ∀ Q : World, Hid (Leafed none w (.returned (.tuple #[.agg #[.int .i64 2, .string x, .int .i64 0, .slice none 0 0], .string s, .bool false])) ((((Z.setCell ⟨w.heap.size, 0, none⟩ (.int .i64 2)).setCell ⟨w.heap.size, 1, none⟩ (.string x)).setCell ⟨w.heap.size, 2, none⟩ (.int .i64 0)).setCell ⟨w.heap.size, 3, none⟩ (.slice none 0 0))) := fun _ =>
        ⟨setFour_below HRZ.out.below (Nat.le_refl _), _, _, _, _, _, _, _, rfl⟩
      obtain ⟨c0, c1, c2, c3, cf⟩ := box_at HRZ.out.res
      cases hnx : nameL x.data.toList with
      | false =>
        go_wp2_with fail
        refine bodyPost_ret (v := .tuple #[.agg #[.int .i64 2, .string x, .int .i64 0, .slice none 0 0], .string s, .bool false]) ?_ rfl ?_
        · simp [results, Tryd.results65, go_sem, c0, c1, c2, c3]
        rw [HR.out]
        exact (fin Z).out
      | true =>
        have hd0 : d = 0 := by
          rcases hbad with h | h
          · rw [hv, if_neg (by simp)] at h
            rw [← HX.out, hnx] at h; cases h
          · exact h
        subst hd0
        go_wp2_with fail
        refine bodyPost_ret (v := .tuple #[.agg #[.int .i64 2, .string x, .int .i64 0, .slice none 0 0], .string s, .bool false]) ?_ rfl ?_
        · simp [results, Tryd.results65, go_sem, c0, c1, c2, c3]
        rw [HR.out]
        exact (fin Z).out
theorem pvar_kids {w : ByteArray} {l r : List UInt8} {t : Tm} (h : pvar w l = some (t, r)) : t.kids = [] := by
  unfold pvar at h
  split at h
  · split at h
    · injection h with h; injection h with h1 h2; subst h1; rfl
    · cases h
  · injection h with h; injection h with h1 h2; subst h1; rfl
theorem patom_kids {w : ByteArray} {l r : List UInt8} {t : Tm} (h : patom w l = some (t, r)) : t.kids = [] := by
  unfold patom at h
  split at h
  · injection h with h; injection h with h1 h2; subst h1; rfl
  · cases h
theorem leafed_some {w Z w2 : World} (hb : Below w.heap.size w Z) (hlt : w.heap.size < Z.heap.size) (h2 : Below Z.heap.size Z w2) {t : Tm} {A : Option Addr} {cap : Nat} {s' : ByteArray} {r : List UInt8}
    (hrep : RepP w2 (fun b => Z.heap.size ≤ b ∧ b < w2.heap.size) t A cap) (hr : s'.data.toList = r) {x y z v : Value} :
    Leafed (some (t, r)) w (.returned (.tuple #[t.val A cap, .string s', .bool true])) ((((w2.setCell ⟨w.heap.size, 0, none⟩ x).setCell ⟨w.heap.size, 1, none⟩ y).setCell ⟨w.heap.size, 2, none⟩ z).setCell ⟨w.heap.size, 3, none⟩ v) := by
  refine ⟨setFour_below (hb.trans (h2.mono (by omega))) (Nat.le_refl _), A, cap, s', rfl, ?_, hr⟩
  refine RepP.mono ?_ ?_ _ _ _ hrep
  · rintro b ⟨h1, h3⟩; exact ⟨by omega, by simp [World.setCell]; omega⟩
  · rintro q ⟨h1, h3⟩
    have hq : ∀ o, (⟨w.heap.size, o, none⟩ : Addr) ≠ q := fun o e => by rw [← e] at h1; simp at h1; omega
    rw [World.cell?_setCell_other _ _ _ _ (hq _), World.cell?_setCell_other _ _ _ _ (hq _), World.cell?_setCell_other _ _ _ _ (hq _), World.cell?_setCell_other _ _ _ _ (hq _)]
set_option maxHeartbeats 4000000 in
set_option maxRecDepth 100000 in
theorem read_leaf (s : ByteArray) (d n : Nat) (hs : s.size ≤ 1000000) (hd : d ≤ 1000000) (w : World)
    (hgood : nameL ((if Lib.hasPrefix s.data.toList [63] = true then s.data.toList.drop 1 else s.data.toList).takeWhile partB) = true)
    (hpar : Lib.hasPrefix s.data.toList [63] = true ∨ Lib.hasPrefix (s.data.toList.drop (wlen s.data.toList)) [40] = false) :
    Calls Tryd.prog 65 #[.string s, .int .i64 (d + 1 : Nat)] w (Leafed (rterm (d + 1) (n + 1) s.data.toList) w) := by

  obtain ⟨W2, hW2⟩ : ∃ W2, W2 = (w.alloc (.cells #[.int .i64 0, .string ⟨#[]⟩, .int .i64 0, .slice none 0 0] 24)).alloc (.cells #[.int .i64 2, .string ⟨#[]⟩, .int .i64 0, .slice none 0 0] 24) := ⟨_, rfl⟩
  have hrd0 : Rd w 2 ⟨#[]⟩ (.slice none 0 0) W2 := by rw [hW2]; exact Rd.new w 2
  have HRD := Lib.hid hrd0; clear hrd0
  have HW := Lib.hid hW2; clear hW2
  cases hv : Lib.hasPrefix s.data.toList [63] with
  | true =>
    obtain ⟨h0, hb, hstl, hsts⟩ := mark_rest s hv
    have q0 : decide (0 < s.size) = true := decide_eq_true h0
    have q1 : (0 : Int) < (s.size : Int) := by omega
    have q2 : (1 : Int) ≤ (s.size : Int) := by omega
    obtain ⟨st, hst⟩ : ∃ st, st = s.extract 1 s.size := ⟨_, rfl⟩
    rw [← hst] at hstl hsts
    have HST := Lib.hid hst; clear hst
    obtain ⟨Y, hY⟩ : ∃ Y, Y = (w.alloc (.cells #[.int .i64 0, .string ⟨#[]⟩, .int .i64 0, .slice none 0 0] 24)).alloc (.cells #[.int .i64 1, .string ⟨#[]⟩, .int .i64 0, .slice none 0 0] 24) := ⟨_, rfl⟩
    have hrd : Rd w 1 ⟨#[]⟩ (.slice none 0 0) Y := by rw [hY]; exact Rd.new w 1
    have HY := Lib.hid hY; clear hY HRD HW

    have hssz : st.size ≤ 1000000 := by omega
    have NM := Lib.hid (rname_any st Y (by omega))

    go_enter Tryd.func65, Tryd.ntmps65
    go_wp2_with fail

    rw [← HST.out, ← HY.out]
    clear q0 q1 q2 hb

    refine NM.out.mono ?_; clear NM
    rintro e w1 ⟨x, rfl, hx, hxs, hw1⟩
    obtain rfl := hw1.symm
    clear hw1
    obtain ⟨Z, hZ⟩ : ∃ Z, Z = Y.setCell ⟨w.heap.size + 1, 1, none⟩ (.string x) := ⟨_, rfl⟩
    have hrz : Rd w 1 x (.slice none 0 0) Z := by rw [hZ]; exact hrd.name x
    obtain ⟨a0, a1, a2, a3, af⟩ := box_at hrd.box
    have hlt1 := hrd.lt
    have hxz : x.size ≤ st.size := by rw [hxs]; have := wlen_le st.data.toList; rw [← size_list] at this; exact this
    have HRZ := Lib.hid hrz; clear hrz hrd
    have HZ := Lib.hid hZ; clear hZ
    have HX := Lib.hid hx; clear hx
    have HXS := Lib.hid hxs; clear hxs
    have IN := Lib.hid (risName_any x Z (by unfold maxLen; omega))
    go_wp2_with fail
    rw [← HZ.out]
    clear a0 a1 a2 a3 af HZ
    obtain ⟨a0, a1, a2, a3, af⟩ := box_at HRZ.out.box
    have hlt2 := HRZ.out.lt

    refine IN.out.mono ?_; clear IN
    rintro e w1 ⟨rfl, hw1⟩
    obtain rfl := hw1.symm
    clear hw1
    have hnx : nameL x.data.toList = true := by rw [HX.out]; rw [hstl]; rw [if_pos hv] at hgood; exact hgood
    have hnl := (nameL_parts hnx).1
    rw [← size_list] at hnl
    rw [hnx]
    obtain ⟨s2, hs2⟩ : ∃ s2, s2 = st.extract x.size st.size := ⟨_, rfl⟩
    have hs2l : s2.data.toList = st.data.toList.drop (wlen st.data.toList) := by rw [hs2, extract_rest, HXS.out]
    have hs2z : s2.size ≤ st.size := by rw [size_list, hs2l, List.length_drop, size_list]; omega

    have HR : Hid (rterm (d + 1) (n + 1) s.data.toList = rleaf 1 x s2.data.toList) := by
      have hp : pterm (n + 1) s.data.toList = pvar x s2.data.toList := by
        rw [pterm, if_neg (by rw [hgood]; simp), if_pos hv, hs2l, hstl, bytes_eq (a := x) (by rw [HX.out, hstl])]
      rw [rterm_leaf d (n + 1) _ (fun t r h => pvar_kids (by rw [← hp]; exact h)), hp, rleaf_var]; exact rfl

    have j1 : (0 : Int) ≤ (x.size : Int) := Int.natCast_nonneg _
    have j2 : (x.size : Int) ≤ (st.size : Int) := by omega
    have j3 : ((d : Int) + 1 == 0) = false := by rw [beq_eq_false_iff_ne]; omega
    obtain ⟨c0, c1, c2, c3, cf⟩ := box_at HRZ.out.res
    have HS2 := Lib.hid hs2
    clear hnx

    have LF := Lib.hid (leaf_any 1 (.inl rfl) x hnl s2 (by omega) Z)
    clear hs2 hs2l
    go_wp2_with fail
    rw [← HS2.out]
    refine LF.out.mono ?_; clear LF a0 a1 a2 a3 af c0 c1 c2 c3 cf
    rintro e w3 ⟨hb3, hm⟩
    have hr3 := HRZ.out.go hb3
    obtain ⟨c0, c1, c2, c3, cf⟩ := box_at hr3.res
    have hlt3 := hr3.lt
    have HB3 := Lib.hid hb3; clear hb3
    have HR3 := Lib.hid hr3; clear hr3
    cases hrl : rleaf 1 x s2.data.toList with
    | none =>
      rw [hrl] at hm
      obtain ⟨k', nm', so', A', l', cc', s', rfl⟩ := hm
      have HRL := Lib.hid hrl; clear hrl
      go_wp2_with fail
      refine bodyPost_ret (v := .tuple #[.agg #[.int .i64 k', .string nm', .int .i64 so', .slice A' l' cc'], .string s', .bool false]) ?_ rfl ?_
      · simp [results, Tryd.results65, go_sem, c0, c1, c2, c3]
      rw [HR.out, HRL.out]
      exact ⟨setFour_below HR3.out.below (Nat.le_refl _), _, _, _, _, _, _, _, rfl⟩
    | some tr =>
      obtain ⟨t, r⟩ := tr
      rw [hrl] at hm
      obtain ⟨A', cc', s', rfl, hrep, hs'⟩ := hm
      have HRL := Lib.hid hrl; clear hrl
      have HREP := Lib.hid hrep; clear hrep
      have HS' := Lib.hid hs'; clear hs'
      simp only [Tm.val]
      go_wp2_with fail
      refine bodyPost_ret (v := .tuple #[t.val A' cc', .string s', .bool true]) ?_ rfl ?_
      · simp [results, Tryd.results65, go_sem, c0, c1, c2, c3, Tm.val]
      rw [HR.out, HRL.out]
      exact leafed_some HRZ.out.below (by omega) HB3.out HREP.out HS'.out
  | false =>
    rcases mark_none s hv with hm | hm
    · rw [hv, if_neg (by simp)] at hgood
      have : s.data.toList = [] := List.length_eq_zero_iff.1 (by rw [← size_list]; exact hm)
      rw [this] at hgood
      cases hgood
    · have hrd := HRD.out

      obtain ⟨h0, hb⟩ := hm
      have q0 : decide (0 < s.size) = true := decide_eq_true h0
      have q1 : (0 : Int) < (s.size : Int) := by omega
      obtain ⟨b, hbb⟩ : ∃ b, b = s[0] := ⟨_, rfl⟩
      rw [← hbb] at hb
      have hsb := hbb.symm
      clear hbb
      obtain ⟨e1, e2⟩ := byte_ne 63 63 rfl hb

      have hssz : s.size ≤ 1000000 := by omega
      have NM := Lib.hid (rname_any s W2 (by omega))

      go_enter Tryd.func65, Tryd.ntmps65
      go_wp2_with fail
      rw [← HW.out]
      clear q0 q1 e1 e2 hsb

      refine NM.out.mono ?_; clear NM
      rintro e w1 ⟨x, rfl, hx, hxs, hw1⟩
      obtain rfl := hw1.symm
      clear hw1
      obtain ⟨Z, hZ⟩ : ∃ Z, Z = W2.setCell ⟨w.heap.size + 1, 1, none⟩ (.string x) := ⟨_, rfl⟩
      have hrz : Rd w 2 x (.slice none 0 0) Z := by rw [hZ]; exact hrd.name x
      obtain ⟨a0, a1, a2, a3, af⟩ := box_at hrd.box
      have hlt1 := hrd.lt
      have hxz : x.size ≤ s.size := by rw [hxs]; have := wlen_le s.data.toList; rw [← size_list] at this; exact this
      have HRZ := Lib.hid hrz; clear hrz hrd
      have HZ := Lib.hid hZ; clear hZ
      have HX := Lib.hid hx; clear hx
      have HXS := Lib.hid hxs; clear hxs
      have IN := Lib.hid (risName_any x Z (by unfold maxLen; omega))
      go_wp2_with fail
      rw [← HZ.out]
      clear a0 a1 a2 a3 af HZ
      obtain ⟨a0, a1, a2, a3, af⟩ := box_at HRZ.out.box
      have hlt2 := HRZ.out.lt

      refine IN.out.mono ?_; clear IN
      rintro e w1 ⟨rfl, hw1⟩
      obtain rfl := hw1.symm
      clear hw1
      have hnx : nameL x.data.toList = true := by rw [HX.out]; rw [hv, if_neg (by simp)] at hgood; exact hgood
      have hnl := (nameL_parts hnx).1
      rw [← size_list] at hnl
      rw [hnx]
      obtain ⟨s2, hs2⟩ : ∃ s2, s2 = s.extract x.size s.size := ⟨_, rfl⟩
      have hs2l : s2.data.toList = s.data.toList.drop (wlen s.data.toList) := by rw [hs2, extract_rest, HXS.out]
      have hs2z : s2.size ≤ s.size := by rw [size_list, hs2l, List.length_drop, size_list]; omega

      have hpp : Lib.hasPrefix s2.data.toList [40] = false := by rw [hs2l]; rcases hpar with h | h; (rw [hv] at h; cases h); exact h
      have HR : Hid (rterm (d + 1) (n + 1) s.data.toList = rleaf 2 x s2.data.toList) := by
        have hg := hgood
        rw [hv, if_neg (by simp)] at hg
        have hp : pterm (n + 1) s.data.toList = patom x s2.data.toList := by
          rw [pterm, hv]
          simp only [Bool.false_eq_true, if_false]
          rw [hg, if_neg (by simp), if_pos (by rw [← hs2l]; exact hpp), hs2l, bytes_eq (a := x) HX.out]
        rw [rterm_leaf d (n + 1) _ (fun t r h => patom_kids (by rw [← hp]; exact h)), hp, rleaf_atom]; exact rfl

      have j1 : (0 : Int) ≤ (x.size : Int) := Int.natCast_nonneg _
      have j2 : (x.size : Int) ≤ (s.size : Int) := by omega
      have j3 : ((d : Int) + 1 == 0) = false := by rw [beq_eq_false_iff_ne]; omega
      obtain ⟨c0, c1, c2, c3, cf⟩ := box_at HRZ.out.res
      have HS2 := Lib.hid hs2
      clear hnx
      rcases no_byte s2 40 hpp with hm2 | ⟨g0, hm2⟩
      · have g1 : s.size - x.size = 0 := by rw [hs2, ByteArray.size_extract] at hm2; omega

        have LF := Lib.hid (leaf_any 2 (.inr rfl) x hnl s2 (by omega) Z)
        clear hs2 hs2l hm2
        go_wp2_with fail
        rw [← HS2.out]
        clear g1
        refine LF.out.mono ?_; clear LF a0 a1 a2 a3 af c0 c1 c2 c3 cf
        rintro e w3 ⟨hb3, hm⟩
        have hr3 := HRZ.out.go hb3
        obtain ⟨c0, c1, c2, c3, cf⟩ := box_at hr3.res
        have hlt3 := hr3.lt
        have HB3 := Lib.hid hb3; clear hb3
        have HR3 := Lib.hid hr3; clear hr3
        cases hrl : rleaf 2 x s2.data.toList with
        | none =>
          rw [hrl] at hm
          obtain ⟨k', nm', so', A', l', cc', s', rfl⟩ := hm
          have HRL := Lib.hid hrl; clear hrl
          go_wp2_with fail
          refine bodyPost_ret (v := .tuple #[.agg #[.int .i64 k', .string nm', .int .i64 so', .slice A' l' cc'], .string s', .bool false]) ?_ rfl ?_
          · simp [results, Tryd.results65, go_sem, c0, c1, c2, c3]
          rw [HR.out, HRL.out]
          exact ⟨setFour_below HR3.out.below (Nat.le_refl _), _, _, _, _, _, _, _, rfl⟩
        | some tr =>
          obtain ⟨t, r⟩ := tr
          rw [hrl] at hm
          obtain ⟨A', cc', s', rfl, hrep, hs'⟩ := hm
          have HRL := Lib.hid hrl; clear hrl
          have HREP := Lib.hid hrep; clear hrep
          have HS' := Lib.hid hs'; clear hs'
          simp only [Tm.val]
          go_wp2_with fail
          refine bodyPost_ret (v := .tuple #[t.val A' cc', .string s', .bool true]) ?_ rfl ?_
          · simp [results, Tryd.results65, go_sem, c0, c1, c2, c3, Tm.val]
          rw [HR.out, HRL.out]
          exact leafed_some HRZ.out.below (by omega) HB3.out HREP.out HS'.out
      · obtain ⟨b2, hbb2⟩ : ∃ b, b = s2[0] := ⟨_, rfl⟩
        rw [← hbb2] at hm2
        obtain ⟨g0', g3⟩ : ∃ h0 : 0 < (s.extract x.size s.size).size, (s.extract x.size s.size)[0] = b2 := by subst hs2; exact ⟨g0, hbb2.symm⟩
        clear hbb2
        obtain ⟨g4, g5⟩ := byte_ne 40 40 rfl hm2
        have g6 : 0 < s.size - x.size := by rw [hs2, ByteArray.size_extract] at g0; omega
        have g7 : ¬ s.size - x.size = 0 := by omega
        have g8 : (((s.size - x.size : Nat) : Int) == 0) = false := by rw [beq_eq_false_iff_ne]; omega

        have LF := Lib.hid (leaf_any 2 (.inr rfl) x hnl s2 (by omega) Z)
        clear hs2 hs2l hm2 g0 g4
        go_wp2_with fail
        rw [← HS2.out]
        clear g6 g7 g8 g3 g0' g5
        refine LF.out.mono ?_; clear LF a0 a1 a2 a3 af c0 c1 c2 c3 cf
        rintro e w3 ⟨hb3, hm⟩
        have hr3 := HRZ.out.go hb3
        obtain ⟨c0, c1, c2, c3, cf⟩ := box_at hr3.res
        have hlt3 := hr3.lt
        have HB3 := Lib.hid hb3; clear hb3
        have HR3 := Lib.hid hr3; clear hr3
        cases hrl : rleaf 2 x s2.data.toList with
        | none =>
          rw [hrl] at hm
          obtain ⟨k', nm', so', A', l', cc', s', rfl⟩ := hm
          have HRL := Lib.hid hrl; clear hrl
          go_wp2_with fail
          refine bodyPost_ret (v := .tuple #[.agg #[.int .i64 k', .string nm', .int .i64 so', .slice A' l' cc'], .string s', .bool false]) ?_ rfl ?_
          · simp [results, Tryd.results65, go_sem, c0, c1, c2, c3]
          rw [HR.out, HRL.out]
          exact ⟨setFour_below HR3.out.below (Nat.le_refl _), _, _, _, _, _, _, _, rfl⟩
        | some tr =>
          obtain ⟨t, r⟩ := tr
          rw [hrl] at hm
          obtain ⟨A', cc', s', rfl, hrep, hs'⟩ := hm
          have HRL := Lib.hid hrl; clear hrl
          have HREP := Lib.hid hrep; clear hrep
          have HS' := Lib.hid hs'; clear hs'
          simp only [Tm.val]
          go_wp2_with fail
          refine bodyPost_ret (v := .tuple #[t.val A' cc', .string s', .bool true]) ?_ rfl ?_
          · simp [results, Tryd.results65, go_sem, c0, c1, c2, c3, Tm.val]
          rw [HR.out, HRL.out]
          exact leafed_some HRZ.out.below (by omega) HB3.out HREP.out HS'.out
theorem rterm_depth {d n : Nat} {l r : List UInt8} {t : Tm} (h : rterm d n l = some (t, r)) : t.depth ≤ d ∧ r.length + 1 ≤ l.length := by
  unfold rterm at h
  cases hp : pterm n l with
  | none => rw [hp] at h; cases h
  | some tr =>
    obtain ⟨t', r'⟩ := tr
    rw [hp, cut_some] at h
    split at h
    · injection h with h; injection h with h1 h2; subst h1 h2
      have h1 := (psize n).1 _ _ _ hp
      have h2 := t'.size_pos
      exact ⟨by assumption, by omega⟩
    · cases h
def strLen : Value → Nat
  | .string s => s.size
  | _ => 0
set_option maxHeartbeats 8000000 in
set_option maxRecDepth 100000 in
theorem read_app (s : ByteArray) (d n : Nat) (hs : s.size ≤ 1000000) (hd : d ≤ 1000000) (w : World)
    (hv : Lib.hasPrefix s.data.toList [63] = false) (hgood : nameL (s.data.toList.takeWhile partB) = true) (hpar : Lib.hasPrefix (s.data.toList.drop (wlen s.data.toList)) [40] = true)
    (ih : ∀ (s : ByteArray) (n : Nat) (w : World), s.size ≤ 1000000 → 2 * s.size + 1 ≤ n → Calls Tryd.prog 65 #[.string s, .int .i64 d] w (Leafed (rterm d n s.data.toList) w))
    (hfuel : 2 * s.size + 1 ≤ n + 1) :
    Calls Tryd.prog 65 #[.string s, .int .i64 (d + 1 : Nat)] w (Leafed (rterm (d + 1) (n + 1) s.data.toList) w) := by

  obtain ⟨W2, hW2⟩ : ∃ W2, W2 = (w.alloc (.cells #[.int .i64 0, .string ⟨#[]⟩, .int .i64 0, .slice none 0 0] 24)).alloc (.cells #[.int .i64 2, .string ⟨#[]⟩, .int .i64 0, .slice none 0 0] 24) := ⟨_, rfl⟩
  have hrd0 : Rd w 2 ⟨#[]⟩ (.slice none 0 0) W2 := by rw [hW2]; exact Rd.new w 2
  have HRD := Lib.hid hrd0; clear hrd0
  have HW := Lib.hid hW2; clear hW2
  rcases mark_none s hv with hm | hm
  · have : s.data.toList = [] := List.length_eq_zero_iff.1 (by rw [← size_list]; exact hm)
    rw [this] at hgood
    cases hgood
  · have hrd := HRD.out

    obtain ⟨h0, hb⟩ := hm
    have q0 : decide (0 < s.size) = true := decide_eq_true h0
    have q1 : (0 : Int) < (s.size : Int) := by omega
    obtain ⟨b, hbb⟩ : ∃ b, b = s[0] := ⟨_, rfl⟩
    rw [← hbb] at hb
    have hsb := hbb.symm
    clear hbb
    obtain ⟨e1, e2⟩ := byte_ne 63 63 rfl hb

    have hssz : s.size ≤ 1000000 := by omega
    have NM := Lib.hid (rname_any s W2 (by omega))

    go_enter Tryd.func65, Tryd.ntmps65
    go_wp2_with fail
    rw [← HW.out]
    clear q0 q1 e1 e2 hsb

    refine NM.out.mono ?_; clear NM
    rintro e w1 ⟨x, rfl, hx, hxs, hw1⟩
    obtain rfl := hw1.symm
    clear hw1
    obtain ⟨Z, hZ⟩ : ∃ Z, Z = W2.setCell ⟨w.heap.size + 1, 1, none⟩ (.string x) := ⟨_, rfl⟩
    have hrz : Rd w 2 x (.slice none 0 0) Z := by rw [hZ]; exact hrd.name x
    obtain ⟨a0, a1, a2, a3, af⟩ := box_at hrd.box
    have hlt1 := hrd.lt
    have hxz : x.size ≤ s.size := by rw [hxs]; have := wlen_le s.data.toList; rw [← size_list] at this; exact this
    have HRZ := Lib.hid hrz; clear hrz hrd
    have HZ := Lib.hid hZ; clear hZ
    have HX := Lib.hid hx; clear hx
    have HXS := Lib.hid hxs; clear hxs
    have IN := Lib.hid (risName_any x Z (by unfold maxLen; omega))
    go_wp2_with fail
    rw [← HZ.out]
    clear a0 a1 a2 a3 af HZ
    obtain ⟨a0, a1, a2, a3, af⟩ := box_at HRZ.out.box
    have hlt2 := HRZ.out.lt

    refine IN.out.mono ?_; clear IN
    rintro e w1 ⟨rfl, hw1⟩
    obtain rfl := hw1.symm
    clear hw1
    have hnx : nameL x.data.toList = true := by rw [HX.out]; exact hgood
    have hnl := (nameL_parts hnx).1
    rw [← size_list] at hnl
    rw [hnx]
    obtain ⟨s2, hs2⟩ : ∃ s2, s2 = s.extract x.size s.size := ⟨_, rfl⟩
    have hs2l : s2.data.toList = s.data.toList.drop (wlen s.data.toList) := by rw [hs2, extract_rest, HXS.out]
    have hs2z : s2.size ≤ s.size := by rw [size_list, hs2l, List.length_drop, size_list]; omega
    have j1 : (0 : Int) ≤ (x.size : Int) := Int.natCast_nonneg _
    have j2 : (x.size : Int) ≤ (s.size : Int) := by omega
    have j3 : ((d : Int) + 1 == 0) = false := by rw [beq_eq_false_iff_ne]; omega
    obtain ⟨c0, c1, c2, c3, cf⟩ := box_at HRZ.out.res
    have HS2 := Lib.hid hs2
    clear hnx

    have hs2p : Lib.hasPrefix s2.data.toList [40] = true := by rw [hs2l]; exact hpar
    have hp2 := prefix_cons hs2p
    obtain ⟨g0, hb2⟩ := first_byte hp2.symm
    obtain ⟨g0', g3⟩ : ∃ h0 : 0 < (s.extract x.size s.size).size, (s.extract x.size s.size)[0] = 40 := by subst hs2; exact ⟨g0, hb2⟩
    have g6 : 0 < s.size - x.size := by rw [hs2, ByteArray.size_extract] at g0; omega
    have g7 : ¬ s.size - x.size = 0 := by omega
    have g8 : (((s.size - x.size : Nat) : Int) == 0) = false := by rw [beq_eq_false_iff_ne]; omega
    have g9 : (1 : Int) ≤ ((s.size - x.size : Nat) : Int) := by omega
    have g10 : 1 ≤ s.size - x.size := by omega
    obtain ⟨s3, hs3⟩ : ∃ s3, s3 = s2.extract 1 s2.size := ⟨_, rfl⟩
    have hs3l : s3.data.toList = s2.data.toList.drop 1 := by rw [hs3]; exact extract_rest s2 1
    have hs3z : s3.size + 1 = s2.size := by
      have e1 := size_list s3
      have e2 := size_list s2
      rw [hs3l, List.length_drop] at e1
      omega
    have hx0 : 0 < x.size := by
      rw [HXS.out]; exact wlen_pos hgood
    have hs2z' : s2.size + x.size = s.size := by
      have e1 := size_list s2
      rw [hs2l, List.length_drop, ← size_list, ← HXS.out] at e1
      omega
    have hs3e : s3 = (s.extract x.size s.size).extract 1 (s.size - x.size) := by
      rw [hs3, hs2]; congr 1; rw [ByteArray.size_extract]; omega
    have HS3 := Lib.hid hs3e
    have HR : Hid (rkids d n x [] s3.data.toList = rterm (d + 1) (n + 1) s.data.toList) := by
      have hp : pterm (n + 1) s.data.toList = pkids n x [] s3.data.toList := by
        rw [pterm, hv]
        simp only [Bool.false_eq_true, if_false]
        rw [hgood, if_neg (by simp), if_neg (by rw [hpar]; simp), hs3l, hs2l, bytes_eq (a := x) HX.out]
      unfold rterm; rw [hp]; exact rfl
    obtain ⟨Z3, hZ3⟩ : ∃ Z3, Z3 = Z.setCell ⟨w.heap.size + 1, 0, none⟩ (.int .i64 3) := ⟨_, rfl⟩
    have hrd3 : Rd w 3 x (.slice none 0 0) Z3 := by rw [hZ3]; exact HRZ.out.kind 3
    have HZ3 := Lib.hid hZ3; clear hZ3
    have HRD3 := Lib.hid hrd3; clear hrd3
    have IH := Lib.hid ih; clear ih
    clear hs2 hs2l hs2z hs2p hp2 g0 hb2 hs3 hs3l hs3e HRD
    go_wp2_with fail
    rw [← HZ3.out, ← HS3.out]
    clear g0' g3 g6 g7 g8 g9 g10 a0 a1 a2 a3 af c0 c1 c2 c3 cf j1 j2 HZ3 HS3
    go_loopw [0] (fun v0 wr => ∃ (m : Nat) (sc : ByteArray) (v : Value) (its : List It), v0 = .string sc ∧ Hid (rkids d m x (its.map (·.1)) sc.data.toList = rterm (d + 1) (n + 1) s.data.toList) ∧ m ≤ n ∧ 2 * sc.size + 2 ≤ m ∧ sc.size < s.size ∧
        Hid (Rd w 3 x v wr) ∧ Hid (RowT wr (w.heap.size + 2) (fun b => w.heap.size + 2 ≤ b) v its) ∧ its.length + sc.size ≤ s.size ∧ Hid (Tm.depths (its.map (·.1)) ≤ d)) (fun v0 _ => strLen v0)
    case atStart => exact ⟨n, s3, _, [], rfl, HR, Nat.le_refl _, by omega, by omega, HRD3, RowT.nil _ _ _, by simp; omega, by show Tm.depths [] ≤ d; simp [Tm.depths]⟩
    case round =>
      obtain ⟨m, sc, v, its, rfl, HK, hmn, hmf, hss, HRD2, HROW, hil, HDP⟩ := hrel
      obtain ⟨m', rfl⟩ : ∃ m', m = m' + 1 := ⟨m - 1, by omega⟩
      obtain ⟨Av, cv, rfl, _⟩ := HROW.out.toS (P := fun _ => True) (fun _ _ _ => trivial) (fun _ _ _ => trivial)
      have hlt5 := HRD2.out.lt
      obtain ⟨a0, a1, a2, a3, af⟩ := box_at HRD2.out.box
      obtain ⟨c0, c1, c2, c3, cf⟩ := box_at HRD2.out.res
      cases hl : sc.data.toList with
      | nil =>
        have hz : sc.size = 0 := by rw [size_list, hl]; rfl
        have q0 : decide (0 < sc.size) = false := decide_eq_false (by omega)
        have q1 : ((sc.size : Int) == 0) = true := by rw [beq_iff_eq]; omega
        have HRES : Hid (rterm (d + 1) (n + 1) s.data.toList = none) := by rw [← HK.out, hl]; exact rkids_nil _ _ _ _
        have HRX := HRD2
        clear hl hz
        go_wp2_with fail
        refine bodyPost_ret (v := .tuple #[.agg #[.int .i64 3, .string x, .int .i64 0, .slice Av its.length cv], .string sc, .bool false]) ?_ rfl ?_
        · simp [results, Tryd.results65, go_sem, c0, c1, c2, c3]
        rw [HRES.out]
        exact ⟨setFour_below (by exact HRX.out.below) (Nat.le_refl _), _, _, _, _, _, _, _, rfl⟩
      | cons b r =>
        obtain ⟨h0, hb⟩ := first_byte hl
        have q0 : decide (0 < sc.size) = true := decide_eq_true h0
        have q1 : ((sc.size : Int) == 0) = false := by rw [beq_eq_false_iff_ne]; omega
        have q2 : (0 : Int) < (sc.size : Int) := by omega
        have q3 : (1 : Int) ≤ (sc.size : Int) := by omega
        by_cases hb41 : b = 41
        · subst hb41
          have HRES : Hid (rterm (d + 1) (n + 1) s.data.toList = some (.mk 3 x 0 (its.map (·.1)), r)) := by
            rw [← HK.out, hl]
            exact rkids_close d m' x _ _ (prefix_one _ _) HDP.out
          have HL := Lib.hid hl; clear hl
          go_wp2_with fail
          go_region
          all_goals
            go_wp2_with fail
            refine bodyPost_ret (v := .tuple #[.agg #[.int .i64 3, .string x, .int .i64 0, .slice Av its.length cv], .string (sc.extract 1 sc.size), .bool true]) ?_ rfl ?_
            · simp [results, Tryd.results65, go_sem, c0, c1, c2, c3]
            rw [HRES.out]
            obtain ⟨A1, cc1, he, hS⟩ := HROW.out.toS (P := fun b => w.heap.size + 2 ≤ b ∧ b < wr.heap.size) (fun b h h' => ⟨h, h'⟩) (fun b h h' => ⟨h, h'⟩)
            injection he with he1 he2 he3
            subst he1 he3
            refine ⟨(setFour_below (by exact HRD2.out.below) (Nat.le_refl _)).drew, Av, cv, sc.extract 1 sc.size, by simp [Tm.val, Tm.kind, Tm.name, Tm.sort, Tm.kids], ?_, by rw [extract_rest, HL.out]; rfl⟩
            rw [RepP_mk]
            refine ⟨by unfold maxLen; omega, RepS.mono ?_ ?_ hS⟩
            · rintro b ⟨h1, h2⟩; exact ⟨by omega, by simp [World.setCell]; omega⟩
            · rintro q ⟨h1, h2⟩
              have hq : ∀ o, (⟨w.heap.size, o, none⟩ : Addr) ≠ q := fun o e => by rw [← e] at h1; simp at h1; omega
              show World.cell? ((((wr.setCell _ _).setCell _ _).setCell _ _).setCell _ _) q = _
              rw [World.cell?_setCell_other _ _ _ _ (hq _), World.cell?_setCell_other _ _ _ _ (hq _), World.cell?_setCell_other _ _ _ _ (hq _), World.cell?_setCell_other _ _ _ _ (hq _)]
        · obtain ⟨e1, e2⟩ := byte_ne 41 41 rfl hb41
          have hp41 : Lib.hasPrefix sc.data.toList [41] = false := by rw [hl]; exact prefix_other (fun e => hb41 e.symm) _
          have HL := Lib.hid hl; clear hl
          by_cases hits : its = []
          · subst hits
            simp only [List.length_nil] at HRD2 HROW a3
            have HKK : Hid (rnext d m' x (([] : List It).map (·.1)) (rterm d m' sc.data.toList) = rterm (d + 1) (n + 1) s.data.toList) := by
              have h := HK.out
              rw [List.map_nil, rkids_next d m' x [] _ hp41 (.inl rfl), if_neg (by simp)] at h
              exact h
            have CON := Lib.hid (IH.out sc m' wr (by omega) (by omega))
            have HKD : Hid (∀ kt r4, rterm d m' sc.data.toList = some (kt, r4) → kt.depth ≤ d ∧ r4.length + 1 ≤ sc.data.toList.length) := fun kt r4 h => rterm_depth h
            obtain ⟨o4, ho4⟩ : ∃ o, o = rterm d m' sc.data.toList := ⟨_, rfl⟩
            rw [← ho4] at CON HKK HKD
            clear ho4
            go_wp2_with fail
            refine CON.out.mono ?_; clear CON a0 a1 a2 a3 af c0 c1 c2 c3 cf q0 q1 q2 q3 e1 e2 hb
            rintro e w8 ⟨hb8, hm8⟩
            have hr8 := HRD2.out.go hb8
            have hlt8 := hr8.lt
            have hs8 := hb8.size
            obtain ⟨c0, c1, c2, c3, cf⟩ := box_at hr8.res
            have HB8 := Lib.hid hb8; clear hb8
            cases o4 with
            | none =>
              obtain ⟨k', nm', so', A', l', cc', s', rfl⟩ := hm8
              have HRES : Hid (rterm (d + 1) (n + 1) s.data.toList = none) := HKK.out.symm
              have hrx := hr8.go (below1 (Nat.le_refl _) (.cells #[.int .i64 k', .string nm', .int .i64 so', .slice A' l' cc'] 24))
              obtain ⟨a0, a1, a2, a3, af⟩ := box_at hrx.box
              obtain ⟨c0, c1, c2, c3, cf⟩ := box_at hrx.res
              have hltx := hrx.lt
              have HRX := Lib.hid hrx; clear hrx hr8
              go_wp2_with fail
              refine bodyPost_ret (v := .tuple #[.agg #[.int .i64 3, .string x, .int .i64 0, .slice Av 0 cv], .string sc, .bool false]) ?_ rfl ?_
              · simp [results, Tryd.results65, go_sem, c0, c1, c2, c3]
              rw [HRES.out]
              exact ⟨setFour_below (by exact HRX.out.below) (Nat.le_refl _), _, _, _, _, _, _, _, rfl⟩
            | some tr =>
              obtain ⟨kt, r4⟩ := tr
              obtain ⟨A8, c8, s5, rfl, hrep8, hs5⟩ := hm8
              have hrow8 : RowT w8 (w.heap.size + 2) (fun b => w.heap.size + 2 ≤ b) (.slice Av 0 cv) ([] : List It) := HROW.out.keep (by omega) (fun b hb hF => HB8.out.block b hb)
              have hown : ∀ b, (Value.slice Av 0 cv).ownBlock = some b → b < wr.heap.size := fun b hb => (HROW.out.lt b hb).2
              obtain ⟨hkd, hkz⟩ := HKD.out kt r4 rfl
              have HREP8 := Lib.hid hrep8; clear hrep8
              have HROW8 := Lib.hid hrow8; clear hrow8
              have HS5 := Lib.hid hs5; clear hs5
              have hz5 : s5.size + 1 ≤ sc.size := by rw [size_list, size_list sc, HS5.out]; exact hkz
              have hb10 : Below w8.heap.size w8 ((w8.alloc (.cells #[.int .i64 kt.kind, .string kt.name, .int .i64 kt.sort, .slice A8 kt.kids.length c8] 24)).alloc (.cells #[.int .i64 kt.kind, .string kt.name, .int .i64 kt.sort, .slice A8 kt.kids.length c8] 24)) :=
                (below1 (Nat.le_refl _) _).alloc (by simp) _
              have hsrc := heap_alloc_new (w8.alloc (.cells #[.int .i64 kt.kind, .string kt.name, .int .i64 kt.sort, .slice A8 kt.kids.length c8] 24)) (.cells #[.int .i64 kt.kind, .string kt.name, .int .i64 kt.sort, .slice A8 kt.kids.length c8] 24)
              rw [World.size_alloc] at hsrc
              obtain ⟨g, cap2, w9, hap, hrow9, hgr9, hbg9⟩ := (HROW8.out.below hb10).grow1 (by simp; omega) (kt, A8, c8) (w8.heap.size + 1) 1 (0, 0) hsrc
                (RepP.mono (fun b ⟨h1, h2⟩ => ⟨by omega, by simp; omega, fun e => by have := hown b e; omega⟩) (fun q ⟨h1, h2⟩ => hb10.cell h2) _ _ _ HREP8.out) (by first | (simp; done) | (simp; omega) | omega)
              have hs9 : w8.heap.size + 2 ≤ w9.heap.size := by have := hgr9.size; simp at this; omega
              have hblk : ∀ b, b < w.heap.size + 2 → w9.heap[b]? = w8.heap[b]? := fun b hb => by
                rw [hgr9.block b (by simp; omega) (fun e => by have := (HROW8.out.lt b e.symm).1; omega)]
                exact hb10.block b (by omega)
              have hrd9 : Rd w 3 x (.slice Av 0 cv) w9 := by
                refine ⟨?_, (hblk _ (by omega)).trans hr8.res, (hblk _ (by omega)).trans hr8.box⟩
                have h := hr8.below
                exact ⟨(hgr9.os.trans hb10.os).trans h.os, (hgr9.tape.trans hb10.tape).trans h.tape, (hgr9.output.trans hb10.output).trans h.output, by have := h.size; omega, fun b hb => (hblk b (by omega)).trans (h.block b hb)⟩
              have hx8 := (hr8.go (below1 (Nat.le_refl _) (.cells #[.int .i64 kt.kind, .string kt.name, .int .i64 kt.sort, .slice A8 kt.kids.length c8] 24)))
              obtain ⟨a0, a1, a2, a3, af⟩ := box_at hx8.box
              obtain ⟨u0, u1, u2, u3', uf⟩ := box_at hrd9.box
              have hlt9 := hrd9.lt
              have hrow9' := hrow9.setCell (p := ⟨w.heap.size + 1, 3, none⟩) (by show ¬ (w.heap.size + 2 ≤ w.heap.size + 1); omega) (by show w.heap.size + 1 < w.heap.size + 2; omega) (.slice (some ⟨g, 0, none⟩) 1 cap2)
              have HROW9 := Lib.hid hrow9'; clear hrow9' hrow9 hgr9 hx8 hblk
              have HRD9 := Lib.hid (hrd9.slot (.slice (some ⟨g, 0, none⟩) 1 cap2)); clear hrd9 hr8
              have HDP2 : Hid (Tm.depths ((([] : List It) ++ [(kt, A8, c8)]).map (·.1)) ≤ d) := by
                rw [List.map_append, depths_append]
                have h1 := HDP.out
                have h2 : Tm.depths ([(kt, A8, c8)].map (·.1)) = kt.depth := by simp [Tm.depths]
                rw [h2]
                exact Nat.max_le.2 ⟨by simp [Tm.depths], hkd⟩
              have HK2 : Hid (rkids d m' x ((([] : List It) ++ [(kt, A8, c8)]).map (·.1)) s5.data.toList = rterm (d + 1) (n + 1) s.data.toList) := by
                have h := HKK.out
                unfold rnext at h
                rw [← HS5.out] at h
                rw [List.map_append]; exact h
              simp only [Tm.val]
              go_wp2_with (at_builtin; refine wpList_run_append rfl _ _ rfl rfl rfl hap ?_)
              go_roundw
              case rel => exact ⟨m', s5, _, ([] : List It) ++ [(kt, A8, c8)], rfl, HK2, by omega, by omega, by omega, HRD9, HROW9, by simp; omega, HDP2⟩
              case measure => simp [strLen]; omega
          · have hpos : 0 < its.length := List.length_pos_iff.2 hits
            have hmne : its.map (·.1) ≠ [] := by simpa using hits
            by_cases hz2 : sc.size < 2
            · have q4 : decide ((sc.size : Int) < 2) = true := decide_eq_true (by omega)
              have HRES : Hid (rterm (d + 1) (n + 1) s.data.toList = none) := by
                rw [← HK.out]
                refine rkids_stop d m' x _ _ hp41 hmne ?_
                rw [← Bool.not_eq_true]
                intro hc
                have h := congrArg List.length (prefix_cons2 hc)
                rw [← size_list, List.length_cons, List.length_cons] at h
                omega
              have HRX := HRD2
              go_wp2_with fail
              refine bodyPost_ret (v := .tuple #[.agg #[.int .i64 3, .string x, .int .i64 0, .slice Av its.length cv], .string sc, .bool false]) ?_ rfl ?_
              · simp [results, Tryd.results65, go_sem, c0, c1, c2, c3]
              rw [HRES.out]
              exact ⟨setFour_below (by exact HRX.out.below) (Nat.le_refl _), _, _, _, _, _, _, _, rfl⟩
            · have q4 : decide ((sc.size : Int) < 2) = false := decide_eq_false (by omega)
              have q5 : (2 : Int) ≤ (sc.size : Int) := by omega
              have htk : (sc.extract 0 2).toList = sc.data.toList.take 2 := by rw [ByteArray.toList_eq, extract_list, List.drop_zero]
              cases hcm : Lib.hasPrefix sc.data.toList [44, 32] with
              | false =>
                have q6 : ((sc.extract 0 2).toList == [44, 32]) = false := by
                  rw [beq_eq_false_iff_ne, htk]
                  intro e
                  have : Lib.hasPrefix sc.data.toList [44, 32] = true := by
                    rw [← List.take_append_drop 2 sc.data.toList, e]; exact prefix_two _ _ _
                  rw [hcm] at this; cases this
                have HRES : Hid (rterm (d + 1) (n + 1) s.data.toList = none) := by rw [← HK.out]; exact rkids_stop d m' x _ _ hp41 hmne hcm
                have HRX := HRD2
                clear htk hcm
                go_wp2_with fail
                refine bodyPost_ret (v := .tuple #[.agg #[.int .i64 3, .string x, .int .i64 0, .slice Av its.length cv], .string sc, .bool false]) ?_ rfl ?_
                · simp [results, Tryd.results65, go_sem, c0, c1, c2, c3]
                rw [HRES.out]
                exact ⟨setFour_below (by exact HRX.out.below) (Nat.le_refl _), _, _, _, _, _, _, _, rfl⟩
              | true =>
                have q6 : ((sc.extract 0 2).toList == [44, 32]) = true := by
                  rw [beq_iff_eq, htk, ← prefix_cons2 hcm]; rfl
                have HKK : Hid (rnext d m' x (its.map (·.1)) (rterm d m' (sc.data.toList.drop 2)) = rterm (d + 1) (n + 1) s.data.toList) := by
                  have h := HK.out
                  rw [rkids_next d m' x _ _ hp41 (.inr hcm), if_pos hmne] at h
                  exact h
                obtain ⟨s4, hs4⟩ : ∃ s4, s4 = sc.extract 2 sc.size := ⟨_, rfl⟩
                have hs4l : s4.data.toList = sc.data.toList.drop 2 := by rw [hs4]; exact extract_rest sc 2
                have hs4z : s4.size + 2 = sc.size := by
                  have e1 := size_list s4
                  have e2 := size_list sc
                  rw [hs4l, List.length_drop] at e1
                  omega
                rw [← hs4l] at HKK
                have HS4 := Lib.hid hs4; clear hs4 hs4l htk hcm
                have CON := Lib.hid (IH.out s4 m' wr (by omega) (by omega))
                have HKD : Hid (∀ kt r4, rterm d m' s4.data.toList = some (kt, r4) → kt.depth ≤ d ∧ r4.length + 1 ≤ s4.data.toList.length) := fun kt r4 h => rterm_depth h
                obtain ⟨o4, ho4⟩ : ∃ o, o = rterm d m' s4.data.toList := ⟨_, rfl⟩
                rw [← ho4] at CON HKK HKD
                clear ho4
                go_wp2_with fail
                rw [← HS4.out]
                refine CON.out.mono ?_; clear CON a0 a1 a2 a3 af c0 c1 c2 c3 cf q0 q1 q2 q3 q4 q5 q6 e1 e2 hb HS4
                rintro e w8 ⟨hb8, hm8⟩
                have hr8 := HRD2.out.go hb8
                have hlt8 := hr8.lt
                have hs8 := hb8.size
                obtain ⟨c0, c1, c2, c3, cf⟩ := box_at hr8.res
                have HB8 := Lib.hid hb8; clear hb8
                cases o4 with
                | none =>
                  obtain ⟨k', nm', so', A', l', cc', s', rfl⟩ := hm8
                  have HRES : Hid (rterm (d + 1) (n + 1) s.data.toList = none) := HKK.out.symm
                  have hrx := hr8.go (below1 (Nat.le_refl _) (.cells #[.int .i64 k', .string nm', .int .i64 so', .slice A' l' cc'] 24))
                  obtain ⟨a0, a1, a2, a3, af⟩ := box_at hrx.box
                  obtain ⟨c0, c1, c2, c3, cf⟩ := box_at hrx.res
                  have hltx := hrx.lt
                  have HRX := Lib.hid hrx; clear hrx hr8
                  go_wp2_with fail
                  refine bodyPost_ret (v := .tuple #[.agg #[.int .i64 3, .string x, .int .i64 0, .slice Av its.length cv], .string s4, .bool false]) ?_ rfl ?_
                  · simp [results, Tryd.results65, go_sem, c0, c1, c2, c3]
                  rw [HRES.out]
                  exact ⟨setFour_below (by exact HRX.out.below) (Nat.le_refl _), _, _, _, _, _, _, _, rfl⟩
                | some tr =>
                  obtain ⟨kt, r4⟩ := tr
                  obtain ⟨A8, c8, s5, rfl, hrep8, hs5⟩ := hm8
                  have hrow8 : RowT w8 (w.heap.size + 2) (fun b => w.heap.size + 2 ≤ b) (.slice Av its.length cv) its := HROW.out.keep (by omega) (fun b hb hF => HB8.out.block b hb)
                  have hown : ∀ b, (Value.slice Av its.length cv).ownBlock = some b → b < wr.heap.size := fun b hb => (HROW.out.lt b hb).2
                  obtain ⟨hkd, hkz⟩ := HKD.out kt r4 rfl
                  have HREP8 := Lib.hid hrep8; clear hrep8
                  have HROW8 := Lib.hid hrow8; clear hrow8
                  have HS5 := Lib.hid hs5; clear hs5
                  have hz5 : s5.size + 1 ≤ s4.size := by rw [size_list, size_list s4, HS5.out]; exact hkz
                  have hb10 : Below w8.heap.size w8 ((w8.alloc (.cells #[.int .i64 kt.kind, .string kt.name, .int .i64 kt.sort, .slice A8 kt.kids.length c8] 24)).alloc (.cells #[.int .i64 kt.kind, .string kt.name, .int .i64 kt.sort, .slice A8 kt.kids.length c8] 24)) :=
                    (below1 (Nat.le_refl _) _).alloc (by simp) _
                  have hsrc := heap_alloc_new (w8.alloc (.cells #[.int .i64 kt.kind, .string kt.name, .int .i64 kt.sort, .slice A8 kt.kids.length c8] 24)) (.cells #[.int .i64 kt.kind, .string kt.name, .int .i64 kt.sort, .slice A8 kt.kids.length c8] 24)
                  rw [World.size_alloc] at hsrc
                  obtain ⟨g, cap2, w9, hap, hrow9, hgr9, hbg9⟩ := (HROW8.out.below hb10).grow1 (by simp; omega) (kt, A8, c8) (w8.heap.size + 1) 1 (0, 0) hsrc
                    (RepP.mono (fun b ⟨h1, h2⟩ => ⟨by omega, by simp; omega, fun e => by have := hown b e; omega⟩) (fun q ⟨h1, h2⟩ => hb10.cell h2) _ _ _ HREP8.out) (by first | (simp; done) | (simp; omega) | omega)
                  have hs9 : w8.heap.size + 2 ≤ w9.heap.size := by have := hgr9.size; simp at this; omega
                  have hblk : ∀ b, b < w.heap.size + 2 → w9.heap[b]? = w8.heap[b]? := fun b hb => by
                    rw [hgr9.block b (by simp; omega) (fun e => by have := (HROW8.out.lt b e.symm).1; omega)]
                    exact hb10.block b (by omega)
                  have hrd9 : Rd w 3 x (.slice Av its.length cv) w9 := by
                    refine ⟨?_, (hblk _ (by omega)).trans hr8.res, (hblk _ (by omega)).trans hr8.box⟩
                    have h := hr8.below
                    exact ⟨(hgr9.os.trans hb10.os).trans h.os, (hgr9.tape.trans hb10.tape).trans h.tape, (hgr9.output.trans hb10.output).trans h.output, by have := h.size; omega, fun b hb => (hblk b (by omega)).trans (h.block b hb)⟩
                  have hx8 := (hr8.go (below1 (Nat.le_refl _) (.cells #[.int .i64 kt.kind, .string kt.name, .int .i64 kt.sort, .slice A8 kt.kids.length c8] 24)))
                  obtain ⟨a0, a1, a2, a3, af⟩ := box_at hx8.box
                  obtain ⟨u0, u1, u2, u3', uf⟩ := box_at hrd9.box
                  have hlt9 := hrd9.lt
                  have hrow9' := hrow9.setCell (p := ⟨w.heap.size + 1, 3, none⟩) (by show ¬ (w.heap.size + 2 ≤ w.heap.size + 1); omega) (by show w.heap.size + 1 < w.heap.size + 2; omega) (.slice (some ⟨g, 0, none⟩) (its.length + 1) cap2)
                  have HROW9 := Lib.hid hrow9'; clear hrow9' hrow9 hgr9 hx8 hblk
                  have HRD9 := Lib.hid (hrd9.slot (.slice (some ⟨g, 0, none⟩) (its.length + 1) cap2)); clear hrd9 hr8
                  have HDP2 : Hid (Tm.depths ((its ++ [(kt, A8, c8)]).map (·.1)) ≤ d) := by
                    rw [List.map_append, depths_append]
                    have h1 := HDP.out
                    have h2 : Tm.depths ([(kt, A8, c8)].map (·.1)) = kt.depth := by simp [Tm.depths]
                    rw [h2]
                    exact Nat.max_le.2 ⟨h1, hkd⟩
                  have HK2 : Hid (rkids d m' x ((its ++ [(kt, A8, c8)]).map (·.1)) s5.data.toList = rterm (d + 1) (n + 1) s.data.toList) := by
                    have h := HKK.out
                    unfold rnext at h
                    rw [← HS5.out] at h
                    rw [List.map_append]; exact h
                  simp only [Tm.val]
                  go_wp2_with (at_builtin; refine wpList_run_append rfl _ _ rfl rfl rfl hap ?_)
                  go_roundw
                  case rel => exact ⟨m', s5, _, its ++ [(kt, A8, c8)], rfl, HK2, by omega, by omega, by omega, HRD9, HROW9, by simp; omega, HDP2⟩
                  case measure => simp [strLen]; omega
end Go.Proofs.YtbgkabgbgbebaaaDoor
