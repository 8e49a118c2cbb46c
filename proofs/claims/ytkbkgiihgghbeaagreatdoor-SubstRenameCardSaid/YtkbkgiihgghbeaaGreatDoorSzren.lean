/- subst.Rename and the reference's Rename. -/
import Derived.Test.YtkbkgiihgghbeaaGreatDoorSztest
import Derived.Test.YtkbkgiihgghbeaaGreatDoorSapply
namespace Go.Proofs.YtkbkgiihgghbeaaGreatDoor
open Go.RowKit Go.Sort

def renameE (sf : ByteArray) (t : Tm) : Tm × Int :=
  if t.valid ≠ 0 then (.mk 0 ⟨#[]⟩ 0 [], t.valid) else if sf.data.toList.all partB = false then (.mk 0 ⟨#[]⟩ 0 [], 2) else if longE sf t = false then (.mk 0 ⟨#[]⟩ 0 [], 3) else (renE sf t, 0)

mutual
theorem check_names : ∀ t : Tm, t.check = 0 → ∀ u ∈ t.all, u.name.size ≤ 24
  | .mk k n so l, h, u, hu => by
    have hc := check_name h
    rw [Tm.all, List.mem_cons] at hu
    rcases hu with rfl | hu
    · exact hc.1
    · exact checks_names l hc.2 u hu
theorem checks_names : ∀ l : List Tm, (∀ t ∈ l, t.check = 0) → ∀ u ∈ Tm.alls l, u.name.size ≤ 24
  | [], _, u, hu => by simp [Tm.alls] at hu
  | t :: r, h, u, hu => by
    rw [Tm.alls, List.mem_append] at hu
    rcases hu with hu | hu
    · exact check_names t (h t (List.mem_cons_self ..)) u hu
    · exact checks_names r (fun x hx => h x (List.mem_cons_of_mem _ hx)) u hu
end
set_option maxHeartbeats 1000000 in
set_option maxRecDepth 100000 in
/-- the closure in Rename -/
theorem zren1_any (sf : ByteArray) (x : Tm) (A : Option Addr) (c b : Nat) (w : World) (hb : w.heap[b]? = some (.cells #[.string sf] 9 (0, 0))) (hx : x.name.size ≤ 24) (hs : sf.size ≤ 1000) :
    Calls Tryz.prog 29 #[x.val A c, .pointer (some ⟨b, 0, none⟩)] w fun e w' => e = .returned (.bool (tooB sf x)) ∧ Below w.heap.size w w' := by
  have hlt := (Array.getElem?_eq_some_iff.1 hb).1
  have hcell : (w.alloc (boxT x A c)).cell? ⟨b, 0, none⟩ = some (.string sf) := by
    have : (w.alloc (boxT x A c)).heap[b]? = some (.cells #[.string sf] 9 (0, 0)) := by rw [Below.heap_alloc _ _ _ (by omega)]; exact hb
    simp [World.cell?, this]
  have HBW := Lib.hid (below1 (Nat.le_refl w.heap.size) (boxT x A c))
  obtain ⟨q, hq⟩ : ∃ q, q = decide ((24 : Int) < (x.name.size : Int) + (sf.size : Int)) := ⟨_, rfl⟩
  have hq2 : tooB sf x = q := by rw [hq]; exact decide_eq_decide.2 (by omega)
  rw [hq2]
  have HQ := Lib.hid hq; clear hq hq2
  clear hb
  simp only [boxT] at HBW hcell
  obtain ⟨k, n, so, l⟩ := x
  simp only [Tm.val, Tm.kind, Tm.name, Tm.sort, Tm.kids] at *
  go_enter Tryz.func29, Tryz.ntmps29
  go_wp2_with fail
  go_ret
  exact ⟨by rw [HQ.out]; rfl, HBW.out⟩

set_option maxHeartbeats 4000000 in
set_option maxRecDepth 100000 in
theorem sRename_any (sf : ByteArray) (hsf : sf.size ≤ 1000) (t : Tm) (A : Option Addr) (cap : Nat) (w : World) (hn : t.size ≤ 1000000) (hrep : RepT w w.heap.size t A cap) :
    Calls Tryz.prog 8 #[t.val A cap, .string sf] w (Applied (renameE sf t) w) := by
  obtain ⟨V, hV⟩ : ∃ V, V = ((w.alloc (.cells #[.int .i64 t.kind, .string t.name, .int .i64 t.sort, .slice A t.kids.length cap] 24)).alloc (.cells #[.string sf] 9)).alloc (.cells #[.int .i64 0, .string ⟨#[]⟩, .int .i64 0, .slice none 0 0] 24) := ⟨_, rfl⟩
  have hsV : V.heap.size = w.heap.size + 3 := by rw [hV]; simp
  have hBV : Below w.heap.size w V := by rw [hV]; exact (((Below.refl _ _).alloc (Nat.le_refl _) _).alloc (by simp) _).alloc (by simp; omega) _
  have hV0 : V.heap[w.heap.size]? = some (.cells #[.int .i64 t.kind, .string t.name, .int .i64 t.sort, .slice A t.kids.length cap] 24 (0, 0)) := by
    rw [hV, Below.heap_alloc _ _ _ (by simp; omega), Below.heap_alloc _ _ _ (by simp)]; exact heap_alloc_new _ _
  have hV1 : V.heap[w.heap.size + 1]? = some (.cells #[.string sf] 9 (0, 0)) := by
    rw [hV, Below.heap_alloc _ _ _ (by simp)]
    have h := heap_alloc_new (w.alloc (.cells #[.int .i64 t.kind, .string t.name, .int .i64 t.sort, .slice A t.kids.length cap] 24)) (.cells #[.string sf] 9)
    rw [World.size_alloc] at h; exact h
  have hV2 : V.heap[w.heap.size + 2]? = some (.cells #[.int .i64 0, .string ⟨#[]⟩, .int .i64 0, .slice none 0 0] 24 (0, 0)) := by
    rw [hV]
    have h := heap_alloc_new ((w.alloc (.cells #[.int .i64 t.kind, .string t.name, .int .i64 t.sort, .slice A t.kids.length cap] 24)).alloc (.cells #[.string sf] 9)) (.cells #[.int .i64 0, .string ⟨#[]⟩, .int .i64 0, .slice none 0 0] 24)
    rw [World.size_alloc, World.size_alloc] at h; exact h
  have HV0 := Lib.hid hV0; clear hV0
  have HV1 := Lib.hid hV1; clear hV1
  have HV2 := Lib.hid hV2; clear hV2
  have VA := valid_any t A cap V hn (hrep.go hBV hBV.size)
  obtain ⟨vt, hvt⟩ : ∃ v, v = t.valid := ⟨_, rfl⟩
  rw [← hvt] at VA
  have VA := Lib.hid VA
  have NM : Hid (∀ Z, Calls Tryz.prog 26 #[.string sf] Z fun e w' => e = .returned (.bool (sf.data.toList.all partB)) ∧ w' = Z) := Lib.hid fun Z => named_any sf Z (by unfold maxLen; omega)
  obtain ⟨nm, hnm⟩ : ∃ b, b = sf.data.toList.all partB := ⟨_, rfl⟩
  rw [← hnm] at NM
  obtain ⟨r, hr⟩ : ∃ r, r = renameE sf t := ⟨_, rfl⟩
  rw [← hr]
  unfold renameE at hr
  rw [← hvt, ← hnm] at hr
  have HVT := Lib.hid hvt; clear hvt hnm
  have HR := Lib.hid hr; clear hr
  have HV := Lib.hid hV; clear hV
  have HBV := Lib.hid hBV; clear hBV
  have HREP := Lib.hid hrep; clear hrep
  have SR : Hid (longE sf t = true → ∀ Z, Below w.heap.size w Z → Calls Tryz.prog 30 #[t.val A cap, .string sf] Z (Fresh (renE sf t) Z)) := Lib.hid fun h Z hb => srename_any sf 1000000 t A cap Z hn (Nat.le_refl _) h (HREP.out.go hb hb.size)
  have VS : Hid (∀ Z, Below w.heap.size w Z → Calls Tryz.prog 28 #[t.val A cap] Z (SetOf Z (t.all.filter fun u => u.kind == 1))) := Lib.hid fun Z hb => vars_any t A cap Z hn (HREP.out.go hb hb.size)
  simp only [Tm.val] at VA VS SR ⊢
  go_enter Tryz.func8, Tryz.ntmps8
  go_wp2_with fail
  rw [← HV.out]
  refine VA.out.mono ?_; clear VA HV
  rintro e w1 ⟨rfl, hl1⟩
  have hs1 := hl1.size
  have H0 := Lib.hid ((hl1.below.block w.heap.size (by omega)).trans HV0.out)
  have H1 := Lib.hid ((hl1.below.block (w.heap.size + 1) (by omega)).trans HV1.out)
  have H2 := Lib.hid ((hl1.below.block (w.heap.size + 2) (by omega)).trans HV2.out)
  have HB1 := Lib.hid (below_then HBV.out hl1.below HBV.out.size); clear HV0 HV1 HV2 HBV hl1
  obtain ⟨a0, a1, a2, a3, -⟩ := box_at H0.out
  have c1 : w1.cell? ⟨w.heap.size + 1, 0, none⟩ = some (.string sf) := by simp [World.cell?, H1.out]
  obtain ⟨b0, b1, b2, b3, bf⟩ := box_at H2.out
  rcases eq_facts vt 0 with ⟨h0, e0, n0⟩ | ⟨h0, e0, n0⟩
  · subst h0
    have hr := HR.out.trans (if_neg (by simp))
    have HR2 := Lib.hid hr; clear hr HR
    cases nm with
    | false =>
      have hr := HR2.out.trans (if_pos rfl)
      have HR3 := Lib.hid hr; clear hr HR2
      go_wp2_with (refine (NM.out _).mono ?_; rintro e w2 ⟨rfl, rfl⟩)
      refine bodyPost_ret (v := .tuple #[.agg #[.int .i64 0, .string ⟨#[]⟩, .int .i64 0, .slice none 0 0], .int .i64 2]) ?_ rfl ?_
      · simp [results, Tryz.results8, go_sem, b0, b1, b2, b3]
      rw [HR3.out]
      exact applied_err HB1.out (by omega)
    | true =>
      have hr := HR2.out.trans (if_neg (by simp))
      have HR3 := Lib.hid hr; clear hr HR2
      go_wp2_with fail
      refine (NM.out _).mono ?_
      rintro e w2 ⟨rfl, rfl⟩
      go_wp2_with fail
      refine (VS.out _ HB1.out).mono ?_; clear VS NM a0 a1 a2 a3 c1 b0 b1 b2 b3 bf
      rintro e w3 ⟨v, its, rfl, hrow, hb3, hmap⟩
      have hs3 := hb3.size
      obtain ⟨A3, c3, rfl, hS⟩ := hrow.toS (P := fun b => b < w3.heap.size) (fun b _ h => h) (fun b _ h => h)
      have hitl : its.length ≤ 1000000 := by
        have e1 : its.length = (its.map (·.1)).length := by simp
        have e2 := Tm.set_length (t.all.filter fun u => u.kind == 1)
        have e3 := List.length_filter_le (fun u : Tm => u.kind == 1) t.all
        rw [Tm.all_length] at e3
        rw [hmap] at e1
        omega
      have hany : (its.map (·.1)).any (tooB sf) = !longE sf t := by
        rw [longE_all, Bool.not_not, hmap, Bool.eq_iff_iff, List.any_eq_true, List.any_eq_true]
        constructor
        · rintro ⟨x, hx, h⟩; exact ⟨x, (Tm.mem_set _ _).1 hx, h⟩
        · rintro ⟨x, hx, h⟩; exact ⟨x, (Tm.mem_set _ _).2 hx, h⟩
      have K1 := Lib.hid ((hb3.block (w.heap.size + 1) (by omega)).trans H1.out)
      have K2 := Lib.hid ((hb3.block (w.heap.size + 2) (by omega)).trans H2.out)
      have K0 := Lib.hid ((hb3.block w.heap.size (by omega)).trans H0.out)
      have HB3 := Lib.hid (below_then HB1.out hb3 HB1.out.size); clear H0 H1 H2 HB1 hb3 hrow
      have CF := containsT_any (its.map (·.1)) A3 c3 29 #[.pointer (some ⟨w.heap.size + 1, 0, none⟩)] (tooB sf) w3 (enters_of Tryz.func29 (by kernel_rfl) rfl) (fun k hk B e Z hZ hrk => by
        refine zren1_any sf k B e (w.heap.size + 1) Z ((hZ.block _ (by omega)).trans K1.out) (check_names t (valid_check HVT.out.symm).1 k ?_) (by omega)
        have h := (Tm.mem_set _ _).1 (hmap ▸ hk)
        exact (List.mem_filter.1 h).1) (by rw [List.length_map]; exact hitl) hS
      rw [hany, List.length_map] at CF
      clear hS hmap hany
      have CF := Lib.hid CF
      obtain ⟨a0, a1, a2, a3, -⟩ := box_at K0.out
      have c1 : w3.cell? ⟨w.heap.size + 1, 0, none⟩ = some (.string sf) := by simp [World.cell?, K1.out]
      obtain ⟨q, hq⟩ : ∃ q, q = longE sf t := ⟨_, rfl⟩
      rw [← hq] at CF HR3 SR
      clear hq
      go_wp2_with fail
      refine CF.out.mono ?_; clear CF a0 a1 a2 a3 c1
      rintro e w4 ⟨rfl, hb4⟩
      have hs4 := hb4.size
      have L0 := Lib.hid ((hb4.block w.heap.size (by omega)).trans K0.out)
      have L1 := Lib.hid ((hb4.block (w.heap.size + 1) (by omega)).trans K1.out)
      have L2 := Lib.hid ((hb4.block (w.heap.size + 2) (by omega)).trans K2.out)
      have HB4 := Lib.hid (below_then HB3.out hb4 HB3.out.size); clear K0 K1 K2 HB3 hb4
      obtain ⟨a0, a1, a2, a3, -⟩ := box_at L0.out
      have c1 : w4.cell? ⟨w.heap.size + 1, 0, none⟩ = some (.string sf) := by simp [World.cell?, L1.out]
      obtain ⟨b0, b1, b2, b3, bf⟩ := box_at L2.out
      cases q with
      | false =>
        have hr := HR3.out.trans (if_pos rfl)
        have HR4 := Lib.hid hr; clear hr HR3
        go_wp2_with fail
        refine bodyPost_ret (v := .tuple #[.agg #[.int .i64 0, .string ⟨#[]⟩, .int .i64 0, .slice none 0 0], .int .i64 3]) ?_ rfl ?_
        · simp [results, Tryz.results8, go_sem, b0, b1, b2, b3]
        rw [HR4.out]
        exact applied_err HB4.out (by omega)
      | true =>
        have hr := HR3.out.trans (if_neg (by simp))
        have HR4 := Lib.hid hr; clear hr HR3
        have SR2 := Lib.hid (SR.out rfl w4 HB4.out); clear SR
        obtain ⟨u, hu⟩ : ∃ u, u = renE sf t := ⟨_, rfl⟩
        rw [← hu] at SR2 HR4
        clear hu
        go_wp2_with fail
        refine SR2.out.mono ?_; clear SR2 a0 a1 a2 a3 c1 b0 b1 b2 b3 bf
        rintro e w5 ⟨A5, c5, rfl, hrep5, hb5⟩
        have hs5 := hb5.size
        obtain ⟨b0, b1, b2, b3, bf⟩ := box_at ((hb5.block (w.heap.size + 2) (by omega)).trans L2.out)
        have HB5 := Lib.hid (below_then HB4.out hb5 HB4.out.size); clear hb5
        have HREP5 := Lib.hid hrep5; clear hrep5
        simp only
        go_wp2_with fail
        refine bodyPost_ret (v := .tuple #[.agg #[.int .i64 u.kind, .string u.name, .int .i64 u.sort, .slice A5 u.kids.length c5], .int .i64 0]) ?_ rfl ?_
        · simp [results, Tryz.results8, go_sem, b0, b1, b2, b3]
        rw [HR4.out]
        exact applied_ok HB5.out (by omega) (by omega) HREP5.out
  · have hr : r = (.mk 0 ⟨#[]⟩ 0 [], vt) := HR.out.trans (if_pos h0)
    have HR3 := Lib.hid hr; clear hr HR h0
    go_wp2_with fail
    refine bodyPost_ret (v := .tuple #[.agg #[.int .i64 0, .string ⟨#[]⟩, .int .i64 0, .slice none 0 0], .int .i64 vt]) ?_ rfl ?_
    · simp [results, Tryz.results8, go_sem, b0, b1, b2, b3]
    rw [HR3.out]
    exact applied_err HB1.out (by omega)

set_option maxHeartbeats 4000000 in
set_option maxRecDepth 100000 in
theorem rRename_any (sf : ByteArray) (hsf : sf.size ≤ 1000) (t : Tm) (A : Option Addr) (cap : Nat) (w : World) (hn : t.size ≤ 1000000) (hrep : RepT w w.heap.size t A cap) :
    Calls Tryz.prog 9 #[t.val A cap, .string sf] w (Applied (renameE sf t) w) := by
  obtain ⟨V, hV⟩ : ∃ V, V = (w.alloc (.cells #[.int .i64 t.kind, .string t.name, .int .i64 t.sort, .slice A t.kids.length cap] 24)).alloc (.cells #[.int .i64 0, .string ⟨#[]⟩, .int .i64 0, .slice none 0 0] 24) := ⟨_, rfl⟩
  have h2 : Two w t (.mk 0 ⟨#[]⟩ 0 []) A none cap 0 V := by rw [hV]; exact Two.new w t (.mk 0 ⟨#[]⟩ 0 []) A none cap 0
  have VA := rvalid_any t A cap V hn (hrep.go h2.lay.below h2.lay.size)
  obtain ⟨vt, hvt⟩ : ∃ v, v = t.valid := ⟨_, rfl⟩
  rw [← hvt] at VA
  have VA := Lib.hid VA
  have NM : Hid (∀ Z, Calls Tryz.prog 32 #[.string sf] Z fun e w' => e = .returned (.bool (sf.data.toList.all partB)) ∧ w' = Z) := Lib.hid fun Z => rplain_any sf Z hsf
  obtain ⟨nm, hnm⟩ : ∃ b, b = sf.data.toList.all partB := ⟨_, rfl⟩
  rw [← hnm] at NM
  obtain ⟨r, hr⟩ : ∃ r, r = renameE sf t := ⟨_, rfl⟩
  rw [← hr]
  unfold renameE at hr
  rw [← hvt, ← hnm] at hr
  have HVT := Lib.hid hvt; clear hvt hnm
  have HR := Lib.hid hr; clear hr
  have HV := Lib.hid hV; clear hV
  have H2 := Lib.hid h2; clear h2
  have HREP := Lib.hid hrep; clear hrep
  have SR : Hid (t.valid = 0 → ∀ Z, Below w.heap.size w Z → Calls Tryz.prog 33 #[t.val A cap, .string sf] Z (Longer sf t Z)) := Lib.hid fun h Z hb => rlonger_any sf hsf 1000000 t A cap Z hn (Nat.le_refl _) (valid_check h).1 (HREP.out.go hb hb.size)
  obtain ⟨a0, a1, a2, a3, -⟩ := box_at H2.out.one
  simp only [Tm.val] at VA SR ⊢
  go_enter Tryz.func9, Tryz.ntmps9
  go_wp2_with fail
  rw [← HV.out]
  refine VA.out.mono ?_; clear VA a0 a1 a2 a3 HV
  rintro e w1 ⟨rfl, hl1⟩
  have H21 := Lib.hid (H2.out.go hl1); clear H2 hl1
  obtain ⟨a0, a1, a2, a3, -⟩ := box_at H21.out.one
  obtain ⟨b0, b1, b2, b3, bf⟩ := box_at H21.out.two
  rcases eq_facts vt 0 with ⟨h0, e0, n0⟩ | ⟨h0, e0, n0⟩
  · subst h0
    have hr := HR.out.trans (if_neg (by simp))
    have HR2 := Lib.hid hr; clear hr HR
    cases nm with
    | false =>
      have hr := HR2.out.trans (if_pos rfl)
      have HR3 := Lib.hid hr; clear hr HR2
      go_wp2_with (refine (NM.out _).mono ?_; rintro e w2 ⟨rfl, rfl⟩)
      refine bodyPost_ret (v := .tuple #[.agg #[.int .i64 0, .string ⟨#[]⟩, .int .i64 0, .slice none 0 0], .int .i64 2]) ?_ rfl ?_
      · simp [results, Tryz.results9, go_sem, b0, b1, b2, b3]
      rw [HR3.out]
      exact applied_err H21.out.lay.below (by omega)
    | true =>
      have hr := HR2.out.trans (if_neg (by simp))
      have HR3 := Lib.hid hr; clear hr HR2
      have SR2 := SR.out HVT.out.symm w1 H21.out.lay.below
      clear SR
      obtain ⟨q, hq⟩ : ∃ q, q = longE sf t := ⟨_, rfl⟩
      obtain ⟨u, hu⟩ : ∃ u, u = renE sf t := ⟨_, rfl⟩
      unfold Longer at SR2
      rw [← hq, ← hu] at SR2
      rw [← hq, ← hu] at HR3
      clear hq hu
      have SR2 := Lib.hid SR2
      go_wp2_with fail
      refine (NM.out _).mono ?_
      rintro e w2 ⟨rfl, rfl⟩
      go_wp2_with fail
      refine SR2.out.mono ?_; clear SR2 NM a0 a1 a2 a3 b0 b1 b2 b3 bf
      rintro e w3 ⟨A3, c3, rfl, hrep3, hb3⟩
      have hs3 := hb3.size
      have hlt1 := H21.out.lt
      obtain ⟨X, hX⟩ : ∃ X, X = w3.alloc (.cells #[.int .i64 u.kind, .string u.name, .int .i64 u.sort, .slice A3 u.kids.length c3] 24) := ⟨_, rfl⟩
      have hbX : Below w3.heap.size w3 X := by rw [hX]; exact below1 (Nat.le_refl _) _
      have hsX : X.heap.size = w3.heap.size + 1 := by rw [hX]; simp
      have hxb : X.heap[w3.heap.size]? = some (.cells #[.int .i64 u.kind, .string u.name, .int .i64 u.sort, .slice A3 u.kids.length c3] 24 (0, 0)) := by rw [hX]; exact heap_alloc_new _ _
      have hbt := below_then hb3 hbX hs3
      have hc := (hbt.block (w.heap.size + 1) hlt1).trans H21.out.two
      have HREPX : Hid (RepP X (fun k => w2.heap.size ≤ k ∧ k < X.heap.size) u A3 c3) := RepP.mono (fun k ⟨h1, h2⟩ => ⟨h1, by omega⟩) (fun p ⟨_, hp⟩ => hbX.cell hp) _ _ _ hrep3
      have HBX := Lib.hid (below_then H21.out.lay.below hbt (by have := H21.out.lay.size; omega))
      obtain ⟨a0, a1, a2, a3, -⟩ := box_at hxb
      obtain ⟨b0, b1, b2, b3, bf⟩ := box_at hc
      clear hxb hc hbt hbX hb3 hrep3
      rw [hX] at a0 a1 a2 a3 b0 b1 b2 b3 bf
      have HX := Lib.hid hX; clear hX
      simp only [Tm.val]
      cases q with
      | false =>
        have hr := HR3.out.trans (if_pos rfl)
        have HR4 := Lib.hid hr; clear hr HR3
        go_wp2_with fail
        rw [← HX.out] at b0 b1 b2 b3 ⊢
        refine bodyPost_ret (v := .tuple #[.agg #[.int .i64 0, .string ⟨#[]⟩, .int .i64 0, .slice none 0 0], .int .i64 3]) ?_ rfl ?_
        · simp [results, Tryz.results9, go_sem, b0, b1, b2, b3]
        rw [HR4.out]
        exact applied_err HBX.out (by omega)
      | true =>
        have hr := HR3.out.trans (if_neg (by simp))
        have HR4 := Lib.hid hr; clear hr HR3
        go_wp2_with fail
        rw [← HX.out] at b0 b1 b2 b3 ⊢
        refine bodyPost_ret (v := .tuple #[.agg #[.int .i64 u.kind, .string u.name, .int .i64 u.sort, .slice A3 u.kids.length c3], .int .i64 0]) ?_ rfl ?_
        · simp [results, Tryz.results9, go_sem, b0, b1, b2, b3]
        rw [HR4.out]
        exact applied_ok HBX.out (by omega) hlt1 HREPX.out
  · have hr : r = (.mk 0 ⟨#[]⟩ 0 [], vt) := HR.out.trans (if_pos h0)
    have HR3 := Lib.hid hr; clear hr HR h0
    go_wp2_with fail
    refine bodyPost_ret (v := .tuple #[.agg #[.int .i64 0, .string ⟨#[]⟩, .int .i64 0, .slice none 0 0], .int .i64 vt]) ?_ rfl ?_
    · simp [results, Tryz.results9, go_sem, b0, b1, b2, b3]
    rw [HR3.out]
    exact applied_err H21.out.lay.below (by omega)
end Go.Proofs.YtkbkgiihgghbeaaGreatDoor
