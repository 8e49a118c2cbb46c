/- The reference's sets: Add, Set, Subterms, kind, Vars, Atoms. -/
import Derived.Test.YtbgkabgbgbebaaaDoorAll
namespace Go.Proofs.YtbgkabgbgbebaaaDoor
open Go.RowKit Go.Sort

theorem add_lt {t x : Tm} {r : List Tm} (h : t.cmp x = -1) : Tm.add t (x :: r) = t :: x :: r := by rw [Tm.add, if_pos (by omega)]
theorem add_eq {t x : Tm} {r : List Tm} (h : t.cmp x = 0) : Tm.add t (x :: r) = x :: r := by rw [Tm.add, if_neg (by omega), if_pos h]
theorem add_gt {t x : Tm} {r : List Tm} (h : t.cmp x = 1) : Tm.add t (x :: r) = x :: Tm.add t r := by rw [Tm.add, if_neg (by omega), if_neg (by omega)]

/-- the part of Add's answer that stands, and the part that is to come -/
def AddSpec (t : Tm) (l : List Tm) (its : List It) (d : Bool) (k : Nat) : Prop := its.map (·.1) ++ (if d then l.drop k else Tm.add t (l.drop k)) = Tm.add t l

set_option maxHeartbeats 4000000 in
set_option maxRecDepth 100000 in
theorem add_any (its0 : List It) (base0 : Nat) (A0 : Option Addr) (n0 c0 : Nat) (t : Tm) (A : Option Addr) (cap : Nat) (w : World) (B : Nat) (hB : B ≤ w.heap.size) (hrow0 : RowT w base0 (fun b => b < B) (.slice A0 n0 c0) its0) (hrep : RepT w B t A cap)
    (hn0 : n0 ≤ 1000000) (ht : t.size ≤ 1000000) (hsz : ∀ x ∈ its0, x.1.size ≤ 1000000) :
    Calls Tryd.prog 70 #[.slice A0 n0 c0, t.val A cap] w (ListOf w B (Tm.add t (its0.map (·.1)))) := by
  have mixed : Tryd.prog.follows .mixedOrders = true := by kernel_rfl
  obtain ⟨l, hl⟩ : ∃ l, l = its0.map (·.1) := ⟨_, rfl⟩
  rw [← hl]
  have hlen0 := hrow0.len
  have hll : l.length = n0 := by rw [hl, List.length_map]; omega
  obtain ⟨W0, hW0⟩ : ∃ W0, W0 = w.alloc (.cells #[.int .i64 t.kind, .string t.name, .int .i64 t.sort, .slice A t.kids.length cap] 24) := ⟨_, rfl⟩
  have hs0 : W0.heap.size = w.heap.size + 1 := by rw [hW0]; simp
  have hb0 : Below w.heap.size w W0 := by rw [hW0]; exact below1 (Nat.le_refl _) _
  have hbx : W0.heap[w.heap.size]? = some (.cells #[.int .i64 t.kind, .string t.name, .int .i64 t.sort, .slice A t.kids.length cap] 24 (0, 0)) := by rw [hW0]; exact heap_alloc_new _ _
  have hg0 : ∀ k, (Value.slice A0 n0 c0).ownBlock = some k → k < w.heap.size := fun k hk => (hrow0.lt k hk).2
  have HB0 := Lib.hid hb0; clear hb0
  have HBX := Lib.hid hbx; clear hbx
  have HS0 := Lib.hid hs0; clear hs0
  have HW0 := Lib.hid hW0; clear hW0
  have HL := Lib.hid hl; clear hl
  have HLL := Lib.hid hll; clear hll
  have HLEN := Lib.hid hlen0; clear hlen0
  have HR0 := Lib.hid hrow0; clear hrow0
  have HREP := Lib.hid hrep; clear hrep
  have HSZ := Lib.hid hsz; clear hsz
  have HG0 := Lib.hid hg0; clear hg0
  simp only [Tm.val]
  go_enter Tryd.func70, Tryd.ntmps70
  go_wp2_with fail
  go_loopw [5, 6, 7] (fun v dv i wr => ∃ (k m c : Nat) (d : Bool) (A' : Option Addr) (its : List It), k ≤ n0 ∧ i = .int .i64 k ∧ dv = .bool d ∧ v = .slice A' m c ∧ m ≤ k + 1 ∧ Hid (d = false → m ≤ k) ∧ Hid (RowT wr (w.heap.size + 1) (fun b => b < B) (.slice A' m c) its) ∧
      Hid (AddSpec t l its d k) ∧ Hid (Below (w.heap.size + 1) W0 wr))
    (fun _ _ i _ => n0 - (intOf i).toNat)
  case atStart => exact ⟨0, 0, 0, false, none, [], Nat.zero_le _, rfl, rfl, rfl, by omega, fun _ => Nat.le_refl _, RowT.nil _ _ _, by simp [AddSpec, Hid], by rw [HW0.out]; exact Below.refl _ _⟩
  case round =>
    obtain ⟨k, m, c, d, A', its, hk, rfl, rfl, rfl, hmk, HMD, HR, HS, HBW⟩ := hrel
    have HBWW : Hid (Below w.heap.size w wr) := HB0.out.trans (HBW.out.mono (by omega))
    have HSW : Hid (w.heap.size + 1 ≤ wr.heap.size) := by have := HBW.out.size; have := HS0.out; exact (by omega : w.heap.size + 1 ≤ wr.heap.size)
    have HML : Hid (m = its.length) := HR.out.len
    obtain ⟨b0, b1, b2, b3⟩ := box_cells ((HBW.out.block w.heap.size (by omega)).trans HBX.out)
    have hTm : ∀ X, Below w.heap.size w X → RepP X (fun b => b < B) t A cap := fun X hX => RepP.mono (fun _ h => h) (fun p hp => (hX.mono hB).cell hp) _ _ _ HREP.out
    have HTM := Lib.hid hTm; clear hTm
    by_cases hlt : k < n0
    · have hki : k < its0.length := by have := HLEN.out; omega
      obtain ⟨g0, hA0⟩ := HR0.out.some (by omega)
      subst hA0
      have hrowk := HR0.out.below (HBWW.out)
      obtain ⟨a0, a1, a2, a3⟩ := hrowk.slot_grown HLEN.out k hki
      have hxrep : ∀ X, Below w.heap.size w X → RepP X (fun b => b < B) its0[k].1 its0[k].2.1 its0[k].2.2 := fun X hX =>
        RepP.mono (fun _ h => h.1) (fun p hp => hX.cell hp.2.1) _ _ _ (HR0.out.reps _ (List.getElem_mem hki))
      have HXR := Lib.hid hxrep; clear hxrep
      have hxsz := HSZ.out _ (List.getElem_mem hki)
      have hdrop : l.drop k = its0[k].1 :: l.drop (k + 1) := by
        have hkl : k < l.length := by have := HLL.out; omega
        rw [List.drop_eq_getElem_cons hkl]
        congr 1
        have h2 := HL.out
        subst h2
        simp
      have HD := Lib.hid hdrop; clear hdrop
      have hslot : ∀ X, Below w.heap.size w X → X.cell? ⟨g0, k * 4, none⟩ = some (.int .i64 its0[k].1.kind) ∧ X.cell? ⟨g0, k * 4 + 1, none⟩ = some (.string its0[k].1.name) ∧ X.cell? ⟨g0, k * 4 + 2, none⟩ = some (.int .i64 its0[k].1.sort) ∧
          X.cell? ⟨g0, k * 4 + 3, none⟩ = some (.slice its0[k].2.1 its0[k].1.kids.length its0[k].2.2) := fun X hX => by
        obtain ⟨h0, h1, h2, h3, _⟩ := (HR0.out.below hX).slot HLEN.out k hki
        exact ⟨h0, h1, h2, h3⟩
      have HSL := Lib.hid hslot; clear hslot hrowk
      obtain ⟨x, hx⟩ : ∃ x, x = its0[k] := ⟨_, rfl⟩
      rw [← hx] at a0 a1 a2 a3 HXR hxsz HD HSL
      clear hx
      have CK : Hid (∀ X, Lay wr.heap.size wr X → Calls Tryd.prog 19 #[t.val A cap, x.1.val x.2.1 x.2.2] X fun e w' => e = .returned (.int .i64 (t.cmp x.1)) ∧ Lay X.heap.size X w') := fun X hX =>
        have hb : Below w.heap.size w X := HBWW.out.trans (hX.below.mono (by have := HSW.out; omega))
        rcompare_any 1000000 t x.1 A x.2.1 cap x.2.2 X ht (Nat.le_refl _) hxsz (RepP.mono (fun b (h : b < B) => by have := hb.size; show b < _; omega) (fun _ _ => rfl) _ _ _ (HTM.out X hb)) (RepP.mono (fun b (h : b < B) => by have := hb.size; show b < _; omega) (fun _ _ => rfl) _ _ _ (HXR.out X hb))
      have hu := Tm.cmp_unit t x.1
      obtain ⟨q, hq⟩ : ∃ q, q = t.cmp x.1 := ⟨_, rfl⟩
      rw [← hq] at CK hu
      have HQ := Lib.hid hq; clear hq
      simp only [Tm.val] at CK
      -- behind the comparison: the world Z
      have hZ : ∀ nq osq, Below w.heap.size w (grow (wr.drewN nq) osq) ∧ Below (w.heap.size + 1) W0 (grow (wr.drewN nq) osq) ∧ RowT (grow (wr.drewN nq) osq) (w.heap.size + 1) (fun b => b < B) (.slice A' m c) its ∧ wr.heap.size ≤ (grow (wr.drewN nq) osq).heap.size := fun nq osq => by
        have hX : Lay wr.heap.size wr (grow (wr.drewN nq) osq) := Lay.of_grow _ _
        have := HSW.out
        exact ⟨HBWW.out.trans (hX.below.mono (by omega)), HBW.out.trans (hX.below.mono (by omega)), HR.out.below hX.below, hX.size⟩
      have HZ := Lib.hid hZ; clear hZ
      have hcase : d = true ∨ (d = false ∧ q = 0) ∨ (d = false ∧ q = 1) ∨ (d = false ∧ q = -1) := by
        cases d
        · rcases hu with h | h | h <;> simp [h]
        · exact .inl rfl
      clear hu
      rcases hcase with rfl | ⟨rfl, rfl⟩ | ⟨rfl, rfl⟩ | ⟨rfl, rfl⟩
      · go_wp2_with fail
        go_quiet_grown ((go_at_call 19; exact quiet_lay (CK.out _ (Lay.of_grow _ _))))
        obtain ⟨hz1, hz2, hz3, hz4⟩ := HZ.out nq osq
        clear HZ CK a0 a1 a2 a3
        generalize grow (wr.drewN nq) osq = Z at *
        obtain ⟨s0, s1, s2, s3⟩ := HSL.out Z hz1
        have hzs := HSW.out
        obtain ⟨A1, c1, w1, hap, hr1, hg1⟩ := hz3.more1 (fun b h => by omega) (by omega) x (HXR.out Z hz1) (by have := HML.out; omega)
        have hb1 : Below (w.heap.size + 1) W0 w1 := below_of_grown (hz2.trans (below1 (by omega) _)) (by simp; omega) hg1 (fun q hq => (HR.out.lt q hq).1)
        rw [← HML.out] at hap hr1
        have HR1 := Lib.hid hr1; clear hr1
        have HB1 := Lib.hid hb1; clear hb1
        clear hz1 hz2 hz3 hg1
        go_wp2_with (at_builtin; refine wpList_run_append rfl _ _ rfl rfl rfl hap ?_)
        go_roundw
        case rel =>
          refine ⟨k + 1, _, c1, true, A1, _, by omega, by go_num, rfl, rfl, by omega, fun h => (by cases h), HR1.out, ?_, HB1.out⟩
          have h := HS.out; unfold AddSpec at h ⊢
          rw [HD.out] at h; rw [List.map_append, List.append_assoc]; exact h
        case measure => simp [intOf]; omega
      · go_wp2_with fail
        go_quiet_grown ((go_at_call 19; exact quiet_lay (CK.out _ (Lay.of_grow _ _))))
        obtain ⟨hz1, hz2, hz3, hz4⟩ := HZ.out nq osq
        clear HZ CK a0 a1 a2 a3
        generalize grow (wr.drewN nq) osq = Z at *
        obtain ⟨s0, s1, s2, s3⟩ := HSL.out Z hz1
        have hzs := HSW.out
        obtain ⟨A1, c1, w1, hap, hr1, hg1⟩ := hz3.more1 (fun b h => by omega) (by omega) x (HXR.out Z hz1) (by have := HML.out; omega)
        have hb1 : Below (w.heap.size + 1) W0 w1 := below_of_grown (hz2.trans (below1 (by omega) _)) (by simp; omega) hg1 (fun q hq => (HR.out.lt q hq).1)
        rw [← HML.out] at hap hr1
        have HR1 := Lib.hid hr1; clear hr1
        have HB1 := Lib.hid hb1; clear hb1
        clear hz1 hz2 hz3 hg1
        go_wp2_with (at_builtin; refine wpList_run_append rfl _ _ rfl rfl rfl hap ?_)
        go_roundw
        case rel =>
          refine ⟨k + 1, _, c1, true, A1, _, by omega, by go_num, rfl, rfl, by omega, fun h => (by cases h), HR1.out, ?_, HB1.out⟩
          have h := HS.out; unfold AddSpec at h ⊢
          rw [HD.out] at h; simp only [Bool.false_eq_true, if_false, if_true] at h ⊢
          rw [add_eq HQ.out.symm] at h; rw [List.map_append, List.append_assoc]; exact h
        case measure => simp [intOf]; omega
      · go_wp2_with fail
        go_quiet_grown ((go_at_call 19; exact quiet_lay (CK.out _ (Lay.of_grow _ _))))
        obtain ⟨hz1, hz2, hz3, hz4⟩ := HZ.out nq osq
        clear HZ CK a0 a1 a2 a3
        generalize grow (wr.drewN nq) osq = Z at *
        obtain ⟨s0, s1, s2, s3⟩ := HSL.out Z hz1
        have hzs := HSW.out
        obtain ⟨A1, c1, w1, hap, hr1, hg1⟩ := hz3.more1 (fun b h => by omega) (by omega) x (HXR.out Z hz1) (by have := HML.out; omega)
        have hb1 : Below (w.heap.size + 1) W0 w1 := below_of_grown (hz2.trans (below1 (by omega) _)) (by simp; omega) hg1 (fun q hq => (HR.out.lt q hq).1)
        rw [← HML.out] at hap hr1
        have HR1 := Lib.hid hr1; clear hr1
        have HB1 := Lib.hid hb1; clear hb1
        clear hz1 hz2 hz3 hg1
        go_wp2_with (at_builtin; refine wpList_run_append rfl _ _ rfl rfl rfl hap ?_)
        go_roundw
        case rel =>
          refine ⟨k + 1, _, c1, false, A1, _, by omega, by go_num, rfl, rfl, by omega, fun _ => (by have := HMD.out (by simp); omega), HR1.out, ?_, HB1.out⟩
          have h := HS.out; unfold AddSpec at h ⊢
          rw [HD.out] at h; simp only [Bool.false_eq_true, if_false] at h ⊢
          rw [add_gt HQ.out.symm] at h; rw [List.map_append, List.append_assoc]; exact h
        case measure => simp [intOf]; omega
      · go_wp2_with fail
        go_quiet_grown ((go_at_call 19; exact quiet_lay (CK.out _ (Lay.of_grow _ _))))
        obtain ⟨hz1, hz2, hz3, hz4⟩ := HZ.out nq osq
        clear HZ CK a0 a1 a2 a3
        have hbz := b0 nq osq
        have hbz1 := b1 nq osq
        have hbz2 := b2 nq osq
        have hbz3 := b3 nq osq
        clear b0 b1 b2 b3
        generalize grow (wr.drewN nq) osq = Z at *
        have hzs := HSW.out
        obtain ⟨A1, c1, w1, hap, hr1, hg1⟩ := hz3.more1 (fun b h => by omega) (by omega) (t, A, cap) (HTM.out Z hz1) (by have := HML.out; omega)
        have hb1 : Below (w.heap.size + 1) W0 w1 := below_of_grown (hz2.trans (below1 (by omega) _)) (by simp; omega) hg1 (fun q hq => (HR.out.lt q hq).1)
        have hw1 : Below w.heap.size w w1 := HB0.out.trans (hb1.mono (by omega))
        have hs1 : Z.heap.size + 1 ≤ w1.heap.size := by have := hg1.size; rwa [World.size_alloc] at this
        obtain ⟨s0, s1, s2, s3⟩ := HSL.out w1 hw1
        have hml : (its ++ [(t, A, cap)]).length = m + 1 := by rw [List.length_append, ← HML.out]; rfl
        rw [← HML.out] at hap hr1
        obtain ⟨A2, c2, w2, hap2, hr2, hg2⟩ := hr1.more1 (fun b h => by omega) (by omega) x (HXR.out w1 hw1) (by omega)
        have hb2 : Below (w.heap.size + 1) W0 w2 := below_of_grown (hb1.trans (below1 (by omega) _)) (by simp; omega) hg2 (fun q hq => (hr1.lt q hq).1)
        rw [hml] at hap2 hr2
        have HR2 := Lib.hid hr2; clear hr2
        have HB2 := Lib.hid hb2; clear hb2
        clear hz1 hz2 hz3 hg1 hr1 hg2 hb1 hw1 hml
        go_wp2_with (at_builtin; first | refine wpList_run_append rfl _ _ rfl rfl rfl hap ?_ | refine wpList_run_append rfl _ _ rfl rfl rfl hap2 ?_)
        go_roundw
        case rel =>
          refine ⟨k + 1, _, c2, true, A2, _, by omega, by go_num, rfl, rfl, by have := HMD.out (by simp); omega, fun h => (by cases h), HR2.out, ?_, HB2.out⟩
          have h := HS.out; unfold AddSpec at h ⊢
          rw [HD.out] at h; simp only [Bool.false_eq_true, if_false, if_true] at h ⊢
          rw [add_lt HQ.out.symm] at h; rw [List.map_append, List.map_append, List.append_assoc, List.append_assoc]; exact h
        case measure => simp [intOf]; omega
    · obtain rfl : k = n0 := by omega
      have hkl : l.drop k = [] := List.drop_eq_nil_of_le (by have := HLL.out; omega)
      have HKL := Lib.hid hkl; clear hkl
      cases d with
      | true =>
        have hm : its.map (·.1) = Tm.add t l := by
          have h := HS.out; unfold AddSpec at h
          rw [HKL.out] at h; simpa using h
        have HM := Lib.hid hm; clear hm
        go_wp2_with fail
        go_ret
        exact ⟨A', c, m, its, rfl, by rw [← HM.out, List.length_map]; exact HML.out, HR.out.loosen (by omega) (fun _ h => h), HBWW.out, HM.out⟩
      | false =>
        have hm : (its ++ [(t, A, cap)]).map (·.1) = Tm.add t l := by
          have h := HS.out; unfold AddSpec at h
          rw [HKL.out] at h; simp only [Bool.false_eq_true, if_false, Tm.add] at h
          rw [List.map_append]; exact h
        have HM := Lib.hid hm; clear hm
        have hzs := HSW.out
        obtain ⟨A1, c1, w1, hap, hr1, hg1⟩ := HR.out.more1 (fun b h => by omega) (by omega) (t, A, cap) (HTM.out wr HBWW.out) (by have := HML.out; omega)
        have hb1 : Below w.heap.size w w1 := below_of_grown (HBWW.out.trans (below1 (by omega) _)) (by simp; omega) hg1 (fun q hq => by have := (HR.out.lt q hq).1; omega)
        rw [← HML.out] at hap hr1
        have HR1 := Lib.hid hr1; clear hr1
        have HB1 := Lib.hid hb1; clear hb1
        clear hg1
        have hb0' := b0 0 #[]
        have hb1' := b1 0 #[]
        have hb2' := b2 0 #[]
        have hb3' := b3 0 #[]
        rw [grow_empty] at hb0' hb1' hb2' hb3'
        rw [World.drewN_zero] at hb0' hb1' hb2' hb3'
        clear b0 b1 b2 b3
        go_wp2_with (at_builtin; refine wpList_run_append rfl _ _ rfl rfl rfl hap ?_)
        go_ret
        exact ⟨A1, c1, m + 1, _, rfl, by rw [← HM.out, List.length_map, List.length_append, ← HML.out]; rfl, HR1.out.loosen (by omega) (fun _ h => h), HB1.out, HM.out⟩

theorem ListOf.loosen {w w0 : World} {B : Nat} {l : List Tm} {e : Ending} {w' : World} (h : ListOf w B l e w') (hb : Below w0.heap.size w0 w) : ListOf w0 B l e w' := by
  obtain ⟨A, c, n, its, he, hn, hr, hbl, hm⟩ := h
  exact ⟨A, c, n, its, he, hn, hr.loosen hb.size (fun _ h => h), hb.trans (hbl.mono hb.size), hm⟩

set_option maxHeartbeats 2000000 in
set_option maxRecDepth 100000 in
theorem set_any (its0 : List It) (base0 : Nat) (A0 : Option Addr) (n0 c0 : Nat) (w : World) (B : Nat) (hB : B ≤ w.heap.size) (hrow0 : RowT w base0 (fun b => b < B) (.slice A0 n0 c0) its0)
    (hn0 : n0 ≤ 1000000) (hsz : ∀ x ∈ its0, x.1.size ≤ 1000000) :
    Calls Tryd.prog 56 #[.slice A0 n0 c0] w (ListOf w B (Tm.set (its0.map (·.1)))) := by
  obtain ⟨l, hl⟩ : ∃ l, l = its0.map (·.1) := ⟨_, rfl⟩
  rw [← hl]
  have hlen0 := hrow0.len
  have hll : l.length = n0 := by rw [hl, List.length_map]; omega
  have HL := Lib.hid hl; clear hl
  have HLL := Lib.hid hll; clear hll
  have HLEN := Lib.hid hlen0; clear hlen0
  have HR0 := Lib.hid hrow0; clear hrow0
  have HSZ := Lib.hid hsz; clear hsz
  go_enter Tryd.func56, Tryd.ntmps56
  go_wp2_with fail
  go_loopw [3, 4] (fun v i wr => ∃ (k m c : Nat) (A' : Option Addr) (its : List It), k ≤ n0 ∧ i = .int .i64 k ∧ v = .slice A' m c ∧ m ≤ k ∧ Hid (RowT wr w.heap.size (fun b => b < B) (.slice A' m c) its) ∧
      Hid (its.map (·.1) = Tm.set (l.take k)) ∧ Hid (Below w.heap.size w wr))
    (fun _ i _ => n0 - (intOf i).toNat)
  case atStart => exact ⟨0, 0, 0, none, [], Nat.zero_le _, rfl, rfl, Nat.le_refl _, RowT.nil _ _ _, by simp [Tm.set, Hid], Below.refl _ _⟩
  case round =>
    obtain ⟨k, m, c, A', its, hk, rfl, rfl, hmk, HR, HM, HB⟩ := hrel
    have HML : Hid (m = its.length) := HR.out.len
    by_cases hlt : k < n0
    · have hki : k < its0.length := by have := HLEN.out; omega
      have hkl : k < l.length := by have := HLL.out; omega
      obtain ⟨g0, hA0⟩ := HR0.out.some (by omega)
      subst hA0
      have hrowk := HR0.out.below HB.out
      obtain ⟨a0, a1, a2, a3, _⟩ := hrowk.slot HLEN.out k hki
      have hss := HB.out.size
      have hx1 : its0[k].1 = l[k] := by have h2 := HL.out; subst h2; simp
      have hadd := add_any its w.heap.size A' m c its0[k].1 its0[k].2.1 its0[k].2.2 wr B (by omega) HR.out (RepP.mono (fun _ h => h.1) (fun _ _ => rfl) _ _ _ (hrowk.reps _ (List.getElem_mem hki))) (by omega) (HSZ.out _ (List.getElem_mem hki))
        (fun x hx => by
          have hxm : x.1 ∈ Tm.set (l.take k) := by rw [← HM.out]; exact List.mem_map_of_mem hx
          have hxl : x.1 ∈ l := List.mem_of_mem_take ((Tm.mem_set _ _).1 hxm)
          rw [HL.out] at hxl
          obtain ⟨y, hy, he⟩ := List.mem_map.1 hxl
          rw [← he]; exact HSZ.out y hy)
      rw [HM.out, hx1, ← Tm.set_take l k hkl] at hadd
      rw [hx1] at a0 a1 a2 a3
      have hlen := Tm.set_length (l.take (k + 1))
      have htl : (l.take (k + 1)).length ≤ k + 1 := by rw [List.length_take]; omega
      have HA := Lib.hid hadd; clear hadd hrowk hx1
      generalize l[k] = x at *
      simp only [Tm.val] at HA
      go_wp2_with fail
      refine HA.out.mono ?_
      rintro e w1 ⟨A1, c1, n1, its1, rfl, hn1, hr1, hb1, hm1⟩
      have HR1 := Lib.hid (hr1.loosen hss (fun _ h => h)); clear hr1
      have HB1 := Lib.hid (HB.out.trans (hb1.mono hss)); clear hb1
      have HM1 := Lib.hid hm1; clear hm1
      have hn2 : n1 ≤ k + 1 := by omega
      clear hn1 hlen htl
      go_wp2_with fail
      go_roundw
      case rel => exact ⟨k + 1, n1, c1, A1, its1, by omega, by go_num, rfl, hn2, HR1.out, HM1.out, HB1.out⟩
      case measure => simp [intOf]; omega
    · obtain rfl : k = n0 := by omega
      have hm : its.map (·.1) = Tm.set l := by rw [HM.out, List.take_of_length_le (by have := HLL.out; omega)]
      have HM' := Lib.hid hm; clear hm
      go_wp2_with fail
      go_ret
      exact ⟨A', c, m, its, rfl, by rw [← HM'.out, List.length_map]; exact HML.out, HR.out, HB.out, HM'.out⟩
end Go.Proofs.YtbgkabgbgbebaaaDoor
