/- slices.BinarySearchFunc over bindings, and subst.find. -/
import Derived.Test.YtipmibjhlpnhjaaGreatDoorSclone
namespace Go.Proofs.YtipmibjhlpnhjaaGreatDoor
open Go.RowKit Go.Sort

abbrev SortedB (l : List Bd) : Prop := l.Pairwise (fun a b => a.1.cmp b.1 < 0)
theorem sorted_below {l : List Bd} (hp : SortedB l) {x : Tm} {h : Nat} (hh : h < l.length) (hc : l[h].1.cmp x < 0) : ∀ k, (hk : k < l.length) → k < h + 1 → l[k].1.cmp x < 0 := fun k hk hkh => by
  rcases Nat.lt_or_ge k h with h1 | h1
  · have := (List.pairwise_iff_getElem.1 hp) k h hk hh h1
    exact (Tm.cmp_tri _ _ _).2.1 this (Int.le_of_lt hc)
  · obtain rfl : k = h := by omega
    exact hc
theorem sorted_above {l : List Bd} (hp : SortedB l) {x : Tm} {h : Nat} (hh : h < l.length) (hc : 0 ≤ l[h].1.cmp x) : ∀ k, (hk : k < l.length) → h ≤ k → 0 ≤ l[k].1.cmp x := fun k hk hkh => by
  rcases Nat.lt_or_ge h k with h1 | h1
  · have h2 := (List.pairwise_iff_getElem.1 hp) h k hh hk h1
    refine Classical.byContradiction fun h3 => ?_
    have := (Tm.cmp_tri l[h].1 l[k].1 x).2.1 h2 (by omega)
    omega
  · obtain rfl : k = h := by omega
    exact hc

set_option maxHeartbeats 2000000 in
set_option maxRecDepth 100000 in
theorem find1_any (b : Bd) (x : Tm) (A A' A'' : Option Addr) (c c' c'' : Nat) (w : World) (hb : b.1.size ≤ 1000000) (hx : x.size ≤ 1000000) (hrb : RepT w w.heap.size b.1 A c) (hrx : RepT w w.heap.size x A'' c'') :
    Calls Tryz.prog 145 #[bval b A c A' c', x.val A'' c''] w fun e w' => e = .returned (.int .i64 (b.1.cmp x)) ∧ Lay w.heap.size w w' := by
  obtain ⟨V, hV⟩ : ∃ V, V = (w.alloc (.cells (bcells b A c A' c') 53)).alloc (.cells #[.int .i64 x.kind, .string x.name, .int .i64 x.sort, .slice A'' x.kids.length c''] 24) := ⟨_, rfl⟩
  have hl : Lay w.heap.size w V := by rw [hV]; exact ((Lay.refl _ _).alloc (Nat.le_refl _) _).alloc (by simp) _
  have CM : Hid (∀ Z, Lay w.heap.size w Z → Calls Tryz.prog 100 #[b.1.val A c, x.val A'' c''] Z fun e w' => e = .returned (.int .i64 (b.1.cmp x)) ∧ Lay Z.heap.size Z w') := Lib.hid fun Z h => compare_any 1000000 b.1 x A A'' c c'' Z hb (by omega) hx (hrb.go h.below h.size) (hrx.go h.below h.size)
  have HL := Lib.hid hl; clear hl
  simp only [bcells] at hV
  have HV := Lib.hid hV; clear hV
  have CON := Lib.hid (CM.out V HL.out); clear CM
  simp only [Tm.val] at CON ⊢
  simp only [bval, bcells]
  go_enter Tryz.func145, Tryz.ntmps145
  go_wp2_with fail
  rw [← HV.out]
  refine CON.out.mono ?_
  rintro e w1 ⟨rfl, hl1⟩
  have HL1 := Lib.hid (HL.out.trans (hl1.mono HL.out.size)); clear hl1
  go_wp2_with fail
  go_ret
  exact ⟨rfl, HL1.out⟩

/-- what the search gives: the place that splits the bindings at x -/
def Split (l : List Bd) (x : Tm) (i : Nat) : Prop := i ≤ l.length ∧ (∀ k, (h : k < l.length) → k < i → l[k].1.cmp x < 0) ∧ (∀ k, (h : k < l.length) → i ≤ k → 0 ≤ l[k].1.cmp x)
def Searched (l : List Bd) (x : Tm) (w : World) (e : Ending) (w' : World) : Prop :=
  ∃ (i : Nat) (ok : Bool), e = .returned (.tuple #[.int .i64 i, .bool ok]) ∧ Split l x i ∧ (ok = true → ∃ h : i < l.length, l[i].1.cmp x = 0) ∧ (ok = false → ∀ h : i < l.length, l[i].1.cmp x ≠ 0) ∧ Lay w.heap.size w w'

set_option maxHeartbeats 4000000 in
set_option maxRecDepth 100000 in
theorem bsearch_any (l : List Bd) (A0 : Option Addr) (cap0 : Nat) (x : Tm) (A'' : Option Addr) (c'' : Nat) (w : World) (hlen : l.length ≤ 1000000) (hp : SortedB l) (hsz : SizeB l) (hx : x.size ≤ 1000000) (hrep : RepB w (fun b => b < w.heap.size) l A0 cap0) (hrx : RepT w w.heap.size x A'' c'') :
    Calls Tryz.prog 144 #[.slice A0 l.length cap0, x.val A'' c'', .func (.func 145) #[] #[]] w (Searched l x w) := by
  have mixed : Tryz.prog.follows .mixedOrders = true := by kernel_rfl
  obtain ⟨h1, h2, h3⟩ := hrep
  unfold maxLen at h2
  obtain ⟨V, hV⟩ : ∃ V, V = w.alloc (.cells #[.int .i64 x.kind, .string x.name, .int .i64 x.sort, .slice A'' x.kids.length c''] 24) := ⟨_, rfl⟩
  have hlV : Lay w.heap.size w V := by rw [hV]; exact (Lay.refl _ _).alloc (Nat.le_refl _) _
  have hbx : V.heap[w.heap.size]? = some (.cells #[.int .i64 x.kind, .string x.name, .int .i64 x.sort, .slice A'' x.kids.length c''] 24 (0, 0)) := by rw [hV]; exact heap_alloc_new _ _
  have hsV : V.heap.size = w.heap.size + 1 := by rw [hV]; simp
  have HP := Lib.hid hp; clear hp
  have HSZ := Lib.hid hsz; clear hsz
  have HRX := Lib.hid hrx; clear hrx
  have HV := Lib.hid hV; clear hV
  have HLV := Lib.hid hlV; clear hlV
  have HBX := Lib.hid hbx; clear hbx
  simp only [Tm.val]
  go_enter Tryz.func144, Tryz.ntmps144
  go_wp2_with fail
  rw [← HV.out]
  go_loopw [9, 10] (fun a b wr => ∃ i j : Nat, a = .int .i64 i ∧ b = .int .i64 j ∧ i ≤ j ∧ j ≤ l.length ∧ Hid (∀ k, (h : k < l.length) → k < i → l[k].1.cmp x < 0) ∧ Hid (∀ k, (h : k < l.length) → j ≤ k → 0 ≤ l[k].1.cmp x) ∧ Hid (Lay V.heap.size V wr)) (fun a b _ => (intOf b).toNat - (intOf a).toNat)
  case atStart => exact ⟨0, l.length, rfl, rfl, Nat.zero_le _, Nat.le_refl _, fun k _ h => absurd h (Nat.not_lt_zero k), fun k h h' => absurd h (by omega), Lay.refl _ _⟩
  case round =>
    obtain ⟨i, j, rfl, rfl, hij, hjl, HLO, HHI, HLR⟩ := hrel
    by_cases hlt : i < j
    · have q0 : decide ((i : Int) < (j : Int)) = true := decide_eq_true (by omega)
      rcases h3 with rfl | ⟨kb, off, rfl, hbB, hl⟩
      · simp at hjl; omega
      have HLW := Lib.hid (HLV.out.trans (HLR.out.mono (by omega)))
      have hlr : RepLP wr (fun b => b < w.heap.size) (flat l) kb off := RepLP.mono (fun _ h => h) (fun p hp => HLW.out.below.cell hp) _ _ _ hbB hl
      obtain ⟨m, hm⟩ : ∃ m, m = (i + j) / 2 := ⟨_, rfl⟩
      have hmi : ((i : Int) + (j : Int)) / 2 = (m : Int) := by omega
      have hm1 : i ≤ m := by omega
      have hm2 : m < j := by omega
      have HMI := Lib.hid hmi; clear hmi hm
      go_wp2_with fail
      rw [HMI.out]
      obtain ⟨Ah, ch, Ah', ch', h8⟩ := hlr.get8 m (by omega)
      obtain ⟨hxh, -⟩ := HSZ.out l[m] (List.getElem_mem (by omega))
      have hbk : kb < V.heap.size := by omega
      have CMP : Hid (∀ Z, Below wr.heap.size wr Z → Calls Tryz.prog 145 #[bval l[m] Ah ch Ah' ch', x.val A'' c''] Z fun e w' => e = .returned (.int .i64 (l[m].1.cmp x)) ∧ Lay Z.heap.size Z w') := Lib.hid fun Z h => by
        have hz : Below w.heap.size w Z := HLW.out.below.trans (h.mono HLW.out.size)
        exact find1_any l[m] x Ah Ah' A'' ch ch' c'' Z hxh hx (RepP.mono (fun b (hb : b < w.heap.size) => by have := hz.size; omega) (fun p (hp : p.block < w.heap.size) => h.cell (by have := HLW.out.size; omega)) _ _ _ h8.r1) (HRX.out.go hz hz.size)
      have hold : ∀ n os o, (grow (wr.drewN n) os).cell? ⟨kb, o, none⟩ = wr.cell? ⟨kb, o, none⟩ := fun n os o => (Lay.of_grow (w := wr) n os).below.cell (by show kb < _; have := HLR.out.size; omega)
      have p0 := fun n os => (hold n os _).trans h8.c0
      have p1 := fun n os => (hold n os _).trans h8.c1
      have p2 := fun n os => (hold n os _).trans h8.c2
      have p3 := fun n os => (hold n os _).trans h8.c3
      have p4 := fun n os => (hold n os _).trans h8.c4
      have p5 := fun n os => (hold n os _).trans h8.c5
      have p6 := fun n os => (hold n os _).trans h8.c6
      have p7 := fun n os => (hold n os _).trans h8.c7
      have hown : ∀ n os, (grow (wr.drewN n) os).heap[w.heap.size]? = _ := fun n os => ((Lay.of_grow (w := wr) n os).below.block _ (by have := HLR.out.size; omega)).trans ((HLR.out.below.block _ (by omega)).trans HBX.out)
      have o0 := fun n os => (box_at (hown n os)).1
      have o1 := fun n os => (box_at (hown n os)).2.1
      have o2 := fun n os => (box_at (hown n os)).2.2.1
      have o3 := fun n os => (box_at (hown n os)).2.2.2.1
      obtain ⟨cp, hcp⟩ : ∃ v, v = l[m].1.cmp x := ⟨_, rfl⟩
      rw [← hcp] at CMP
      have HCP := Lib.hid hcp; clear hcp hown hold h8
      have j1 : (0 : Int) ≤ (m : Int) := Int.natCast_nonneg _
      have j2 : (m : Int) < (l.length : Int) := by omega
      simp only [Tm.val, bval, bcells] at CMP
      by_cases hc : cp < 0
      · have d0 : decide (cp < 0) = true := decide_eq_true hc
        have hnx := sorted_below HP.out (x := x) (h := m) (by omega) (by rw [← HCP.out]; exact hc)
        have HNX := Lib.hid hnx; clear hnx hc
        go_quiet_grown ((go_at_call 145; exact quiet_lay (CMP.out _ (Lay.of_grow _ _).below)))
        go_wp2_with fail
        go_roundw
        case rel => exact ⟨m + 1, j, by go_num, rfl, by omega, hjl, HNX, HHI, HLR.out.trans ((Lay.of_grow _ _).mono HLR.out.size)⟩
        case measure => simp [intOf]; omega
      · have d0 : decide (cp < 0) = false := decide_eq_false hc
        have hnx := sorted_above HP.out (x := x) (h := m) (by omega) (by rw [← HCP.out]; omega)
        have HNX := Lib.hid hnx; clear hnx hc
        go_quiet_grown ((go_at_call 145; exact quiet_lay (CMP.out _ (Lay.of_grow _ _).below)))
        go_wp2_with fail
        go_roundw
        case rel => exact ⟨i, m, rfl, rfl, hm1, by omega, HLO, HNX, HLR.out.trans ((Lay.of_grow _ _).mono HLR.out.size)⟩
        case measure => simp [intOf]; omega
    · obtain rfl : i = j := by omega
      have q0 : decide ((i : Int) < (i : Int)) = false := decide_eq_false (by omega)
      have HLW := Lib.hid (HLV.out.trans (HLR.out.mono (by omega)))
      have hsp : Split l x i := ⟨hjl, HLO.out, HHI.out⟩
      have HSP := Lib.hid hsp; clear hsp
      by_cases hil : i < l.length
      · have q1 : decide (i < l.length) = true := decide_eq_true hil
        have q2 : decide ((i : Int) < (l.length : Int)) = true := decide_eq_true (by omega)
        rcases h3 with rfl | ⟨kb, off, rfl, hbB, hl⟩
        · simp at hil
        have hlr : RepLP wr (fun b => b < w.heap.size) (flat l) kb off := RepLP.mono (fun _ h => h) (fun p hp => HLW.out.below.cell hp) _ _ _ hbB hl
        obtain ⟨Ah, ch, Ah', ch', h8⟩ := hlr.get8 i (by omega)
        obtain ⟨hxh, -⟩ := HSZ.out l[i] (List.getElem_mem (by omega))
        have hbk : kb < V.heap.size := by omega
        have CMP : Hid (∀ Z, Below wr.heap.size wr Z → Calls Tryz.prog 145 #[bval l[i] Ah ch Ah' ch', x.val A'' c''] Z fun e w' => e = .returned (.int .i64 (l[i].1.cmp x)) ∧ Lay Z.heap.size Z w') := Lib.hid fun Z h => by
          have hz : Below w.heap.size w Z := HLW.out.below.trans (h.mono HLW.out.size)
          exact find1_any l[i] x Ah Ah' A'' ch ch' c'' Z hxh hx (RepP.mono (fun b (hb : b < w.heap.size) => by have := hz.size; omega) (fun p (hp : p.block < w.heap.size) => h.cell (by have := HLW.out.size; omega)) _ _ _ h8.r1) (HRX.out.go hz hz.size)
        have hold : ∀ n os o, (grow (wr.drewN n) os).cell? ⟨kb, o, none⟩ = wr.cell? ⟨kb, o, none⟩ := fun n os o => (Lay.of_grow (w := wr) n os).below.cell (by show kb < _; have := HLR.out.size; omega)
        have p0 := fun n os => (hold n os _).trans h8.c0
        have p1 := fun n os => (hold n os _).trans h8.c1
        have p2 := fun n os => (hold n os _).trans h8.c2
        have p3 := fun n os => (hold n os _).trans h8.c3
        have p4 := fun n os => (hold n os _).trans h8.c4
        have p5 := fun n os => (hold n os _).trans h8.c5
        have p6 := fun n os => (hold n os _).trans h8.c6
        have p7 := fun n os => (hold n os _).trans h8.c7
        have hown : ∀ n os, (grow (wr.drewN n) os).heap[w.heap.size]? = _ := fun n os => ((Lay.of_grow (w := wr) n os).below.block _ (by have := HLR.out.size; omega)).trans ((HLR.out.below.block _ (by omega)).trans HBX.out)
        have o0 := fun n os => (box_at (hown n os)).1
        have o1 := fun n os => (box_at (hown n os)).2.1
        have o2 := fun n os => (box_at (hown n os)).2.2.1
        have o3 := fun n os => (box_at (hown n os)).2.2.2.1
        obtain ⟨cp, hcp⟩ : ∃ v, v = l[i].1.cmp x := ⟨_, rfl⟩
        rw [← hcp] at CMP
        have HCP := Lib.hid hcp; clear hcp hown hold h8
        have j1 : (0 : Int) ≤ (i : Int) := Int.natCast_nonneg _
        have j2 : (i : Int) < (l.length : Int) := by omega
        simp only [Tm.val, bval, bcells] at CMP
        rcases eq_facts cp 0 with ⟨g, e0, n0⟩ | ⟨g, e0, n0⟩
        · subst g
          go_wp2_with fail
          go_quiet_grown ((go_at_call 145; exact quiet_lay (CMP.out _ (Lay.of_grow _ _).below)))
          go_wp2_with fail
          go_ret2
          exact ⟨i, true, rfl, HSP.out, fun _ => ⟨hil, HCP.out.symm⟩, fun h => (by cases h), HLW.out.trans ((Lay.of_grow _ _).mono HLW.out.size)⟩
        · go_wp2_with fail
          go_quiet_grown ((go_at_call 145; exact quiet_lay (CMP.out _ (Lay.of_grow _ _).below)))
          go_wp2_with fail
          go_ret2
          exact ⟨i, false, rfl, HSP.out, fun h => (by cases h), fun _ _ => by rw [← HCP.out]; exact g, HLW.out.trans ((Lay.of_grow _ _).mono HLW.out.size)⟩
      · have q1 : decide (i < l.length) = false := decide_eq_false hil
        have q2 : decide ((i : Int) < (l.length : Int)) = false := decide_eq_false (by omega)
        go_wp2_with fail
        go_quiet (fail)
        go_wp2_with fail
        go_ret2
        exact ⟨i, false, rfl, HSP.out, fun h => (by cases h), fun _ h => absurd h hil, HLW.out.drewN _⟩

theorem setFour_lay {B b : Nat} {u w : World} {x y z v : Value} (h : Lay B u w) (hB : B ≤ b) : Lay B u ((((w.setCell ⟨b, 0, none⟩ x).setCell ⟨b, 1, none⟩ y).setCell ⟨b, 2, none⟩ z).setCell ⟨b, 3, none⟩ v) := by
  iterate 4 refine Lay.setCell ?_ (by exact hB) _
  exact h
def Found (l : List Bd) (x : Tm) (w : World) (e : Ending) (w' : World) : Prop :=
  ∃ A c, e = .returned (.tuple #[(getS l x).val A c, .bool (hasS l x)]) ∧ RepT w w.heap.size (getS l x) A c ∧ Lay w.heap.size w w'

set_option maxHeartbeats 4000000 in
set_option maxRecDepth 100000 in
theorem find_any (l : List Bd) (A0 : Option Addr) (cap0 : Nat) (x : Tm) (A'' : Option Addr) (c'' : Nat) (w : World) (hlen : l.length ≤ 1000000) (hp : SortedB l) (hsz : SizeB l) (hx : x.size ≤ 1000000) (hrep : RepB w (fun b => b < w.heap.size) l A0 cap0) (hrx : RepT w w.heap.size x A'' c'') :
    Calls Tryz.prog 108 #[.slice A0 l.length cap0, x.val A'' c''] w (Found l x w) := by
  obtain ⟨V, hV⟩ : ∃ V, V = (w.alloc (.cells #[.int .i64 x.kind, .string x.name, .int .i64 x.sort, .slice A'' x.kids.length c''] 24)).alloc (.cells #[.int .i64 0, .string ⟨#[]⟩, .int .i64 0, .slice none 0 0] 24) := ⟨_, rfl⟩
  have h2 : Two w x (.mk 0 ⟨#[]⟩ 0 []) A'' none c'' 0 V := by rw [hV]; exact Two.new w x (.mk 0 ⟨#[]⟩ 0 []) A'' none c'' 0
  have BS := Lib.hid (bsearch_any l A0 cap0 x A'' c'' V hlen hp hsz hx (hrep.go h2.lay.below h2.lay.size) (hrx.go h2.lay.below h2.lay.size))
  have HREP := Lib.hid hrep
  have HP := Lib.hid hp; clear hp hrep
  have HRX := Lib.hid hrx; clear hrx
  have HV := Lib.hid hV; clear hV
  have H2 := Lib.hid h2; clear h2
  obtain ⟨a0, a1, a2, a3, -⟩ := box_at H2.out.one
  simp only [Tm.val] at BS ⊢
  go_enter Tryz.func108, Tryz.ntmps108
  go_wp2_with fail
  rw [← HV.out]
  refine BS.out.mono ?_; clear BS a0 a1 a2 a3 HV
  rintro e w1 ⟨i, ok, rfl, ⟨hil, hlo, hhi⟩, hok, hno, hl1⟩
  have H21 := Lib.hid (H2.out.go hl1); clear H2 hl1
  obtain ⟨a0, a1, a2, a3, -⟩ := box_at H21.out.one
  obtain ⟨b0, b1, b2, b3, bf⟩ := box_at H21.out.two
  obtain ⟨s1, s2⟩ := search_get HP.out hil hlo hhi
  have S1 := Lib.hid s1; clear s1
  have S2 := Lib.hid s2; clear s2
  have HOK := Lib.hid hok; clear hok
  have HNO := Lib.hid hno; clear hno hlo hhi
  cases ok with
  | false =>
    obtain ⟨e1, e2⟩ := S2.out (HNO.out rfl)
    have E1 := Lib.hid e1; clear e1
    have E2 := Lib.hid e2; clear e2
    go_wp2_with fail
    refine bodyPost_ret (v := .tuple #[.agg #[.int .i64 x.kind, .string x.name, .int .i64 x.sort, .slice A'' x.kids.length c''], .bool false]) ?_ rfl ?_
    · simp [results, Tryz.results108, go_sem, b0, b1, b2, b3]
    unfold Found
    rw [E1.out, E2.out]
    exact ⟨A'', c'', rfl, HRX.out, setFour_lay H21.out.lay (Nat.le_succ _)⟩
  | true =>
    obtain ⟨hlt, hc0⟩ := HOK.out rfl
    obtain ⟨e1, e2⟩ := S1.out hlt hc0
    have E1 := Lib.hid e1; clear e1
    have E2 := Lib.hid e2; clear e2 hc0
    rcases HREP.out.2.2 with rfl | ⟨kb, off, rfl, hbB, hl⟩
    · simp at hlt
    obtain ⟨Ai, ci, Ai', ci', h8⟩ := hl.get8 i hlt
    have hold : ∀ o, w1.cell? ⟨kb, o, none⟩ = w.cell? ⟨kb, o, none⟩ := fun o => H21.out.lay.below.cell (by exact hbB)
    have p4 := (hold _).trans h8.c4
    have p5 := (hold _).trans h8.c5
    have p6 := (hold _).trans h8.c6
    have p7 := (hold _).trans h8.c7
    have HR2 := Lib.hid h8.r2; clear h8 hl hold
    have i1 : (0 : Int) ≤ (i : Int) := Int.natCast_nonneg _
    have i2 : (i : Int) < (l.length : Int) := by omega
    go_wp2_with fail
    refine bodyPost_ret (v := .tuple #[.agg #[.int .i64 l[i].2.kind, .string l[i].2.name, .int .i64 l[i].2.sort, .slice Ai' l[i].2.kids.length ci'], .bool true]) ?_ rfl ?_
    · simp [results, Tryz.results108, go_sem, b0, b1, b2, b3]
    unfold Found
    rw [E1.out, E2.out]
    exact ⟨Ai', ci', rfl, HR2.out, setFour_lay H21.out.lay (Nat.le_succ _)⟩
end Go.Proofs.YtipmibjhlpnhjaaGreatDoor
