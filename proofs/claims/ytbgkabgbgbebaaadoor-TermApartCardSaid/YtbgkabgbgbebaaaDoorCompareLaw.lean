/- The law TermCompare, walked. -/
import Derived.Test.YtbgkabgbgbebaaaDoorAwake
import Derived.Test.YtbgkabgbgbebaaaDoorRcompare
import Derived.Shelf.SlSortCmp.QuietGrown
namespace Go.Proofs.YtbgkabgbgbebaaaDoor
open Go.RowKit Go.Sort

theorem RepT.kids {w : World} {B : Nat} {t : Tm} {A : Option Addr} {c : Nat} (h : RepT w B t A c) : t.kids.length ≤ c ∧ c ≤ maxLen ∧ (t.kids = [] ∨ ∃ b off, A = some ⟨b, off, none⟩ ∧ b < B ∧ RepL w B t.kids b off) := by
  obtain ⟨k, n, s, l⟩ := t
  rw [RepT_mk] at h
  exact h.2
theorem Tm.kids_size (t : Tm) : t.kids.length < t.size := by
  obtain ⟨a, n, s, l⟩ := t
  have := Tm.length_le_sizes l
  rw [Tm.size]
  show l.length < 1 + Tm.sizes l
  omega
theorem Tm.kid_size {t k : Tm} (h : k ∈ t.kids) : k.size < t.size := by
  obtain ⟨a, n, s, l⟩ := t
  obtain ⟨i, hi, rfl⟩ := List.getElem_of_mem h
  have := Tm.sizes_get l i hi
  rw [Tm.size]
  show l[i].size < 1 + Tm.sizes l
  omega
set_option maxHeartbeats 4000000 in
set_option maxRecDepth 100000 in
theorem compare_law (a b c : Tm) (Aa Ab Ac : Option Addr) (ca cb cc : Nat) (w : World) (hw : Words w.heap.size w) (ra : RepT w w.heap.size a Aa ca) (rb : RepT w w.heap.size b Ab cb) (rc : RepT w w.heap.size c Ac cc) :
    Calls Tryd.prog 4 #[a.val Aa ca, b.val Ab cb, c.val Ac cc] w fun e w' => e = .returned (.bool true) ∧ Below w.heap.size w w' := by
  have mixed : Tryd.prog.follows .mixedOrders = true := by kernel_rfl
  obtain ⟨V1, hV1⟩ : ∃ V, V = w.alloc (boxOf a Aa ca) := ⟨_, rfl⟩
  obtain ⟨V2, hV2⟩ : ∃ V, V = V1.alloc (boxOf b Ab cb) := ⟨_, rfl⟩
  obtain ⟨V, hV⟩ : ∃ V, V = V2.alloc (boxOf c Ac cc) := ⟨_, rfl⟩
  have hs1 : V1.heap.size = w.heap.size + 1 := by rw [hV1]; simp
  have hs2 : V2.heap.size = w.heap.size + 1 + 1 := by rw [hV2]; simp [hs1]
  have k1 : Below w.heap.size w V1 := by rw [hV1]; exact below1 (Nat.le_refl _) _
  have k2 : Below V1.heap.size V1 V2 := by rw [hV2]; exact below1 (Nat.le_refl _) _
  have k3 : Below V2.heap.size V2 V := by rw [hV]; exact below1 (Nat.le_refl _) _
  have k12 := below_then k1 k2 k1.size
  have hbV : Below w.heap.size w V := below_then k12 k3 k12.size
  have hxa : BoxT V w.heap.size a Aa ca := (show BoxT V1 w.heap.size a Aa ca by rw [hV1]; exact BoxT.new ra).below (below_then k2 k3 k2.size)
  have hxb : BoxT V (w.heap.size + 1) b Ab cb := (show BoxT V2 (w.heap.size + 1) b Ab cb by rw [hV2, ← hs1]; exact BoxT.new (rb.go k1 k1.size)).below k3
  have hxc : BoxT V (w.heap.size + 1 + 1) c Ac cc := by rw [hV, ← hs2]; exact BoxT.new (rc.go k12 k12.size)
  rw [hV2, hV1] at hV
  have HW := Lib.hid (hw.below hbV); clear hw ra rb rc k1 k2 k3 k12 hs1 hs2 hV1 hV2
  have HBV := Lib.hid hbV; clear hbV
  have HXA := Lib.hid hxa; clear hxa
  have HXB := Lib.hid hxb; clear hxb
  have HXC := Lib.hid hxc; clear hxc
  simp only [boxOf] at hV
  have HV := Lib.hid hV; clear hV
  simp only [Tm.val]
  go_enter Tryd.func4, Tryd.ntmps4
  go_wp2_with fail
  rw [← HV.out]
  refine (awake_any V HW.out).mono ?_
  rintro e w1 ⟨rfl, hb1⟩
  have hxa := HXA.out.below hb1
  have hxb := HXB.out.below hb1
  have hxc := HXC.out.below hb1
  have hB1 := below_then HBV.out hb1 HBV.out.size
  have hw1 := HW.out.below hb1
  clear HV HBV HW HXA HXB HXC hb1
  obtain ⟨a0, a1, a2, a3, -⟩ := hxa.cells
  obtain ⟨b0, b1, b2, b3, -⟩ := hxb.cells
  obtain ⟨c0, c1, c2, c3, -⟩ := hxc.cells
  obtain ⟨Z, hZ⟩ : ∃ Z, Z = w1.alloc (.cells (itCells [(a, Aa, ca), (b, Ab, cb), (c, Ac, cc)]).toArray 24) := ⟨_, rfl⟩
  have hzb : Below w1.heap.size w1 Z := by rw [hZ]; exact below1 (Nat.le_refl _) _
  have hsl : RepS Z (fun b => b < Z.heap.size) [a, b, c] (some ⟨w1.heap.size, 0, none⟩) 3 :=
    repS_cells [(a, Aa, ca), (b, Ab, cb), (c, Ac, cc)] (by rw [hZ]; exact heap_alloc_new _ _) (by rw [hZ]; simp) (fun x hx => by
      simp only [List.mem_cons, List.not_mem_nil, or_false] at hx
      rcases hx with rfl | rfl | rfl
      · exact (hxa.below hzb).2
      · exact (hxb.below hzb).2
      · exact (hxc.below hzb).2) (by simp)
  have hxa' := hxa.below hzb
  have hxb' := hxb.below hzb
  have hxc' := hxc.below hzb
  have hBZ := below_then hB1 hzb hB1.size
  have hwZ := hw1.below hzb
  simp only [itCells, Tm.cells, List.cons_append, List.nil_append] at hZ
  clear hxa hxb hxc hB1 hw1 hzb
  have HZ := Lib.hid hZ; clear hZ
  have HSL := Lib.hid hsl; clear hsl
  have HB := Lib.hid hBZ; clear hBZ
  have HW := Lib.hid hwZ; clear hwZ
  have HXA := Lib.hid hxa'; clear hxa'
  have HXB := Lib.hid hxb'; clear hxb'
  have HXC := Lib.hid hxc'; clear hxc'
  go_wp2_with fail
  rw [← HZ.out]
  refine (few_any [a, b, c] _ 3 3 450 Z (by decide) (by decide) HSL.out).mono ?_
  rintro e w2 ⟨rfl, hl2⟩
  have hxa := HXA.out.below hl2.below
  have hxb := HXB.out.below hl2.below
  have hxc := HXC.out.below hl2.below
  have hB2 := below_then HB.out hl2.below HB.out.size
  have hw2 := HW.out.below hl2.below
  clear HZ HSL HB HW HXA HXB HXC hl2 a0 a1 a2 a3 b0 b1 b2 b3 c0 c1 c2 c3
  have HB := Lib.hid hB2; clear hB2
  have HXA := Lib.hid hxa; clear hxa
  have HXB := Lib.hid hxb; clear hxb
  have HXC := Lib.hid hxc; clear hxc
  by_cases hle : (([a, b, c] : List Tm).length : Int) ≤ 3 ∧ 0 ≤ Tm.lefts [a, b, c] 450
  · have hsz := Tm.lefts_each (by decide) hle.2
    have sa : a.size ≤ 1000000 := by have := hsz a (by simp); omega
    have sb : b.size ≤ 1000000 := by have := hsz b (by simp); omega
    have sc : c.size ≤ 1000000 := by have := hsz c (by simp); omega
    rw [decide_eq_true hle]
    clear hle hw2 hsz
    have SA := Lib.hid sa; clear sa
    have SB := Lib.hid sb; clear sb
    have SC := Lib.hid sc; clear sc
    have cells : ∀ {t : Tm} {A : Option Addr} {k B : Nat}, Hid (BoxT w2 B t A k) → ∀ n os, (grow (w2.drewN n) os).cell? ⟨B, 0, none⟩ = some (.int .i64 t.kind) ∧ (grow (w2.drewN n) os).cell? ⟨B, 1, none⟩ = some (.string t.name) ∧ (grow (w2.drewN n) os).cell? ⟨B, 2, none⟩ = some (.int .i64 t.sort) ∧ (grow (w2.drewN n) os).cell? ⟨B, 3, none⟩ = some (.slice A t.kids.length k) := fun H n os => by
      obtain ⟨h0, h1, h2, h3, -⟩ := (H.out.below (Lay.of_grow n os).below).cells
      exact ⟨h0, h1, h2, h3⟩
    have a0 := fun n os => (cells HXA n os).1
    have a1 := fun n os => (cells HXA n os).2.1
    have a2 := fun n os => (cells HXA n os).2.2.1
    have a3 := fun n os => (cells HXA n os).2.2.2
    have b0 := fun n os => (cells HXB n os).1
    have b1 := fun n os => (cells HXB n os).2.1
    have b2 := fun n os => (cells HXB n os).2.2.1
    have b3 := fun n os => (cells HXB n os).2.2.2
    have c0 := fun n os => (cells HXC n os).1
    have c1 := fun n os => (cells HXC n os).2.1
    have c2 := fun n os => (cells HXC n os).2.2.1
    have c3 := fun n os => (cells HXC n os).2.2.2
    have C1 : Hid (∀ Z, Below w2.heap.size w2 Z → Calls Tryd.prog 18 #[.agg #[.int .i64 a.kind, .string a.name, .int .i64 a.sort, .slice Aa a.kids.length ca], .agg #[.int .i64 b.kind, .string b.name, .int .i64 b.sort, .slice Ab b.kids.length cb]] Z fun e w' => e = .returned (.int .i64 (a.cmp b)) ∧ Lay Z.heap.size Z w') :=
      Lib.hid fun Z h => compare_any 1000000 a b Aa Ab ca cb Z SA.out (by decide) SB.out (HXA.out.below h).2 (HXB.out.below h).2
    have C2 : Hid (∀ Z, Below w2.heap.size w2 Z → Calls Tryd.prog 18 #[.agg #[.int .i64 b.kind, .string b.name, .int .i64 b.sort, .slice Ab b.kids.length cb], .agg #[.int .i64 c.kind, .string c.name, .int .i64 c.sort, .slice Ac c.kids.length cc]] Z fun e w' => e = .returned (.int .i64 (b.cmp c)) ∧ Lay Z.heap.size Z w') :=
      Lib.hid fun Z h => compare_any 1000000 b c Ab Ac cb cc Z SB.out (by decide) SC.out (HXB.out.below h).2 (HXC.out.below h).2
    have C3 : Hid (∀ Z, Below w2.heap.size w2 Z → Calls Tryd.prog 18 #[.agg #[.int .i64 a.kind, .string a.name, .int .i64 a.sort, .slice Aa a.kids.length ca], .agg #[.int .i64 c.kind, .string c.name, .int .i64 c.sort, .slice Ac c.kids.length cc]] Z fun e w' => e = .returned (.int .i64 (a.cmp c)) ∧ Lay Z.heap.size Z w') :=
      Lib.hid fun Z h => compare_any 1000000 a c Aa Ac ca cc Z SA.out (by decide) SC.out (HXA.out.below h).2 (HXC.out.below h).2
    clear cells
    go_wp2_with fail
    go_quiet_grown (first
      | (go_at_call 18; with_reducible exact quiet_lay (C1.out _ (Lay.of_grow _ _).below))
      | (go_at_call 18; with_reducible exact quiet_lay (C2.out _ (Lay.of_grow _ _).below))
      | (go_at_call 18; with_reducible exact quiet_lay (C3.out _ (Lay.of_grow _ _).below)))
    clear C1 C2 C3 a0 a1 a2 a3 b0 b1 b2 b3 c0 c1 c2 c3
    have hZ : Below w2.heap.size w2 (grow (w2.drewN nq) osq) := (Lay.of_grow _ _).below
    generalize grow (w2.drewN nq) osq = Z at *
    have hxa := HXA.out.below hZ
    have hxb := HXB.out.below hZ
    have hxc := HXC.out.below hZ
    have hBZ := below_then HB.out hZ HB.out.size
    clear HB HXA HXB HXC hZ
    obtain ⟨a0, a1, a2, a3, -⟩ := hxa.cells
    obtain ⟨b0, b1, b2, b3, -⟩ := hxb.cells
    obtain ⟨c0, c1, c2, c3, -⟩ := hxc.cells
    have HB := Lib.hid hBZ; clear hBZ
    have HXA := Lib.hid hxa; clear hxa
    have HXB := Lib.hid hxb; clear hxb
    have HXC := Lib.hid hxc; clear hxc
    have HT : Hid (Tri (a.cmp b) (b.cmp c) (a.cmp c)) := Lib.hid (Tm.cmp_tri a b c)
    have HU : Hid (Unit3 (a.cmp b)) := Lib.hid (Tm.cmp_unit a b)
    have hn : b.cmp a = -(a.cmp b) := Tm.cmp_neg a b
    have R1 := Lib.hid (rcompare_any 1000000 a b Aa Ab ca cb Z SA.out (by decide) SB.out HXA.out.2 HXB.out.2)
    generalize hx : a.cmp b = x at *
    generalize hy : b.cmp c = y at *
    generalize hz : a.cmp c = z at *
    have HN := Lib.hid hn; clear hn
    have HX := Lib.hid hx; clear hx
    have HY := Lib.hid hy; clear hy
    clear hz
    go_wp2_with fail
    refine R1.out.mono ?_
    clear R1
    rintro e w3 ⟨rfl, hl⟩
    have hxa := HXA.out.below hl.below
    have hxb := HXB.out.below hl.below
    have hxc := HXC.out.below hl.below
    have hB := below_then HB.out hl.below HB.out.size
    clear HB HXA HXB HXC hl a0 a1 a2 a3 b0 b1 b2 b3 c0 c1 c2 c3
    obtain ⟨a0, a1, a2, a3, -⟩ := hxa.cells
    obtain ⟨b0, b1, b2, b3, -⟩ := hxb.cells
    obtain ⟨c0, c1, c2, c3, -⟩ := hxc.cells
    have HB := Lib.hid hB; clear hB
    have HXA := Lib.hid hxa; clear hxa
    have HXB := Lib.hid hxb; clear hxb
    have HXC := Lib.hid hxc; clear hxc
    have R2 := rcompare_any 1000000 b c Ab Ac cb cc w3 SB.out (by decide) SC.out HXB.out.2 HXC.out.2
    rw [HY.out] at R2
    have R2 := Lib.hid R2
    clear HY
    go_wp2_with fail
    refine R2.out.mono ?_
    clear R2
    rintro e w4 ⟨rfl, hl⟩
    have hxa := HXA.out.below hl.below
    have hxb := HXB.out.below hl.below
    have hxc := HXC.out.below hl.below
    have hB := below_then HB.out hl.below HB.out.size
    clear HB HXA HXB HXC hl a0 a1 a2 a3 b0 b1 b2 b3 c0 c1 c2 c3
    obtain ⟨a0, a1, a2, a3, -⟩ := hxa.cells
    obtain ⟨b0, b1, b2, b3, -⟩ := hxb.cells
    have HB := Lib.hid hB; clear hB
    have HXA := Lib.hid hxa; clear hxa
    have HXB := Lib.hid hxb; clear hxb hxc
    have R3 := compare_any 1000000 b a Ab Aa cb ca w4 SB.out (by decide) SA.out HXB.out.2 HXA.out.2
    rw [HN.out] at R3
    have R3 := Lib.hid R3
    clear HN
    go_wp2_with fail
    refine R3.out.mono ?_
    clear R3
    rintro e w5 ⟨rfl, hl⟩
    have hxa := HXA.out.below hl.below
    have hB := below_then HB.out hl.below HB.out.size
    clear HB HXA HXB hl a0 a1 a2 a3 b0 b1 b2 b3
    obtain ⟨a0, a1, a2, a3, -⟩ := hxa.cells
    have HB := Lib.hid hB; clear hB
    have HXA := Lib.hid hxa; clear hxa
    have hcase : (x = -1 ∧ decide (y ≤ 0) = true ∧ decide (0 < z) = false) ∨ (x = -1 ∧ decide (y ≤ 0) = false) ∨ (x = 0 ∧ z = y ∧ decide (y ≤ 0) = true ∧ decide (0 < y) = false) ∨ (x = 0 ∧ z = y ∧ decide (y ≤ 0) = false) ∨ x = 1 := by
      obtain ⟨t1, t2, t3, t4, t5⟩ := HT.out
      rcases HU.out with rfl | rfl | rfl
      · by_cases h : y ≤ 0
        · have := t1 (by omega) h
          exact .inl ⟨rfl, decide_eq_true h, decide_eq_false (by omega)⟩
        · exact .inr (.inl ⟨rfl, decide_eq_false h⟩)
      · by_cases h : y ≤ 0
        · exact .inr (.inr (.inl ⟨rfl, t4 rfl, decide_eq_true h, decide_eq_false (by omega)⟩))
        · exact .inr (.inr (.inr (.inl ⟨rfl, t4 rfl, decide_eq_false h⟩)))
      · exact .inr (.inr (.inr (.inr rfl)))
    clear HT HU
    rcases hcase with ⟨rfl, q1, q2⟩ | ⟨rfl, q1⟩ | ⟨rfl, rfl, q1, q2⟩ | ⟨rfl, rfl, q1⟩ | rfl
    all_goals
      go_wp2_with fail
      clear a0 a1 a2 a3
      go_loopw [76] (fun i wr => ∃ k : Nat, k ≤ a.kids.length ∧ i = .int .i64 k ∧ Hid (BoxT wr w.heap.size a Aa ca) ∧ Hid (Below w.heap.size w wr)) (fun i _ => a.kids.length - (intOf i).toNat)
      case atStart => exact ⟨0, Nat.zero_le _, rfl, HXA, HB⟩
      case round =>
        obtain ⟨k, hk, rfl, HXR, HBR⟩ := hrel
        clear HXA HB
        by_cases hlt : k < a.kids.length
        · obtain ⟨hc1, hc2, hkids⟩ := HXR.out.2.kids
          rcases hkids with h0 | ⟨bk, off, rfl, hbk, hl⟩
          · rw [h0] at hlt; simp at hlt
          have hc3 : a.kids.length ≤ 1000000 := by have := Tm.kids_size a; have := SA.out; omega
          clear hc1 hc2
          obtain ⟨C, ck, e0, e1, e2, e3, e5⟩ := hl.get k hlt
          obtain ⟨X, hX⟩ : ∃ X, X = wr.alloc (boxOf a.kids[k] C ck) := ⟨_, rfl⟩
          have hxb : Below wr.heap.size wr X := by rw [hX]; exact below1 (Nat.le_refl _) _
          have hbk' : BoxT X wr.heap.size a.kids[k] C ck := by rw [hX]; exact BoxT.new e5
          have hxa := HXR.out.below hxb
          have hkid : a.kids[k].cmp a = -1 := Tm.cmp_kid (List.getElem_mem hlt)
          have hks : a.kids[k].size ≤ 1000000 := by have := Tm.kid_size (List.getElem_mem hlt); have := SA.out; omega
          have CK := compare_any 1000000 a.kids[k] a C (some ⟨bk, off, none⟩) ck ca X hks (by decide) SA.out hbk'.2 hxa.2
          rw [hkid] at CK
          have CK := Lib.hid CK
          obtain ⟨a0, a1, a2, a3, -⟩ := HXR.out.cells
          have hl1 : w.heap.size < wr.heap.size := HXR.out.lt
          have i1 : (0 : Int) ≤ (k : Int) := Int.natCast_nonneg _
          have i2 : (k : Int) < (a.kids.length : Int) := by omega
          have hbx := below_then HBR.out hxb HBR.out.size
          simp only [boxOf] at hX
          have HXX := Lib.hid hX; clear hX
          have HXA := Lib.hid hxa; clear hxa hkid hks hbk' hxb e5 hl hbk HXR
          have HBX := Lib.hid hbx; clear hbx
          go_wp2_with fail
          rw [← HXX.out]
          refine CK.out.mono ?_
          clear CK HXX a0 a1 a2 a3 e0 e1 e2 e3
          rintro e wz ⟨rfl, hlz⟩
          have hxa := HXA.out.below hlz.below
          have hbx := below_then HBX.out hlz.below HBX.out.size
          go_wp2_with fail
          go_roundw
          case rel => exact ⟨k + 1, by omega, by go_num, hxa, hbx⟩
          case measure => simp [intOf]; omega
        · obtain rfl : k = a.kids.length := by omega
          go_wp2_with fail
          go_ret
          exact ⟨rfl, HBR.out⟩
  · rw [decide_eq_false hle]
    have HW := Lib.hid hw2; clear hw2
    go_wp2_with fail
    refine (awake_any w2 HW.out).mono ?_
    rintro e w3 ⟨rfl, hb3⟩
    go_wp2_with fail
    go_ret
    exact ⟨rfl, below_then HB.out hb3 HB.out.size⟩
end Go.Proofs.YtbgkabgbgbebaaaDoor
