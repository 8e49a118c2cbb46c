/- Umatr2 (joined by shake.py). -/
import Derived.Test.YtmajbopjaejliaaGreatDoorR15
import Derived.Test.YtmajbopjaejliaaGreatDoorR21
import Derived.Test.YtmajbopjaejliaaGreatDoorR22
import Derived.Test.YtmajbopjaejliaaGreatDoorR23
namespace Go.Proofs.YtmajbopjaejliaaGreatDoor
open Go.RowKit Go.Sort
/-- no conflict among the first pairs -/
def okTo (m : List Bd) (i k : Nat) : Prop := ∀ a b, (ha : a < m.length) → (hb : b < m.length) → b < a → (a < i ∨ (a = i ∧ b < k)) → m[a].1 = m[b].1 → m[a].2 = m[b].2
theorem okTo_cons {m : List Bd} (h : okTo m m.length 0) : consU m := by
  intro a ha b hb e
  obtain ⟨i, hi, rfl⟩ := List.getElem_of_mem ha
  obtain ⟨j, hj, rfl⟩ := List.getElem_of_mem hb
  rcases Nat.lt_trichotomy i j with h1 | h1 | h1
  · exact (h j i hj hi h1 (.inl hj) e.symm).symm
  · subst h1; rfl
  · exact h i j hi hj h1 (.inl hi) e
theorem okTo_step {m : List Bd} {i k : Nat} (h : okTo m i k) (hi : i < m.length) (hk : k < i) (hc : m[i].1 = (m[k]'(by omega)).1 → m[i].2 = (m[k]'(by omega)).2) : okTo m i (k + 1) := by
  intro a b ha hb hba hor e
  rcases hor with h1 | ⟨rfl, h1⟩
  · exact h a b ha hb hba (.inl h1) e
  · rcases Nat.lt_or_ge b k with h2 | h2
    · exact h a b ha hb hba (.inr ⟨rfl, h2⟩) e
    · obtain rfl : b = k := by omega
      exact hc e
theorem okTo_next {m : List Bd} {i : Nat} (h : okTo m i i) : okTo m (i + 1) 0 := by
  intro a b ha hb hba hor e
  rcases hor with h1 | ⟨-, h1⟩
  · rcases Nat.lt_or_ge a i with h2 | h2
    · exact h a b ha hb hba (.inl h2) e
    · obtain rfl : a = i := by omega
      exact h a b ha hb hba (.inr ⟨rfl, hba⟩) e
  · omega
/-- what is still to be looked up -/
def LookM (m : List Bd) (x : Tm) (k : Nat) : Prop := getS (m.drop k) x = getS m x ∧ hasS (m.drop k) x = hasS m x
theorem lookM_zero (m : List Bd) (x : Tm) : LookM m x 0 := ⟨rfl, rfl⟩
theorem lookM_step {m : List Bd} {x : Tm} {k : Nat} (h : LookM m x k) (hk : k < m.length) (hne : m[k].1 ≠ x) : LookM m x (k + 1) := by
  obtain ⟨h1, h2⟩ := h
  rw [List.drop_eq_getElem_cons hk] at h1 h2
  rw [getS, if_neg hne] at h1
  rw [hasS, if_neg hne] at h2
  exact ⟨h1, h2⟩
theorem lookM_hit {m : List Bd} {x : Tm} {k : Nat} (h : LookM m x k) (hk : k < m.length) (he : m[k].1 = x) : getS m x = m[k].2 := by
  have h1 := h.1
  rw [List.drop_eq_getElem_cons hk, getS, if_pos he] at h1
  exact h1.symm

attribute [local irreducible] wpMix4
set_option linter.unusedSimpArgs false in
set_option linter.unusedVariables false in
set_option maxHeartbeats 8000000 in
set_option maxRecDepth 100000 in
theorem rmatchE_any (p t : Tm) (P T : Option Addr) (cp ct : Nat) (w : World) (hp : p.size ≤ 1000000) (ht : t.size ≤ 1000000) (hrp : RepT w w.heap.size p P cp) (hrt : RepT w w.heap.size t T ct) :
    Calls Tryz.prog 22 #[p.val P cp, t.val T ct] w (MatchedE (matchR p t) w) := by
  have mixed : Tryz.prog.follows .mixedOrders = true := by kernel_rfl
  have HF := Lib.hid (show Facts w [] w from Below.refl _ _)
  obtain ⟨V, hV⟩ : ∃ V, V = (w.alloc (boxOf p P cp)).alloc (boxOf t T ct) := ⟨_, rfl⟩
  have hA := HF.out.boxes2 hrp hrt
  rw [← hV] at hA
  obtain ⟨b0, hb0⟩ : ∃ b, b = w.heap.size := ⟨_, rfl⟩
  simp only [boxOf] at hV
  have HV := Lib.hid hV
  rw [← hb0] at hA
  have HA := Lib.hid hA
  have VV := both_any p t P T cp ct V hp ht HA.out.2.1.2 HA.out.1.2
  obtain ⟨v2, hv2⟩ : ∃ v, v = valid2 p t := ⟨_, rfl⟩
  obtain ⟨r, hr⟩ : ∃ r, r = matchR p t := ⟨_, rfl⟩
  rw [← hr]
  unfold matchR at hr
  rw [← hv2] at VV hr
  have HR := Lib.hid hr
  have HV2 := Lib.hid hv2
  have HRP := Lib.hid hrp
  have HRT := Lib.hid hrt
  obtain ⟨a0, a1, a2, a3, -⟩ := BoxT.cells HA.out.2.1
  obtain ⟨c0, c1, c2, c3, -⟩ := BoxT.cells HA.out.1
  clear hV hA HF hr hv2 hrp hrt
  simp only [Tm.val] at VV ⊢
  have VV := Lib.hid VV
  have hbw : w.heap.size ≤ b0 := by omega
  go_enter Tryz.func22, Tryz.ntmps22
  go_wp2_with fail
  rw [← HV.out, ← hb0]
  clear HV hb0
  try go_wp2_with fail
  refine VV.out.mono ?_; clear VV a0 a1 a2 a3 c0 c1 c2 c3
  rintro e w1 ⟨rfl, hl1⟩
  have HB := Lib.hid (Facts.below hl1.below HA.out); clear HA hl1
  rcases eq_facts v2 0 with ⟨e0, e1, n1⟩ | ⟨e0, e1, n1⟩
  rotate_left
  · have hr := HR.out.trans (if_pos e0)
    subst hr
    clear HR
    go_wp2_with fail
    go_ret2
    exact matched_err (Facts.bel HB.out)
  have HR2 := Lib.hid (HR.out.trans (if_neg (show ¬ (v2 ≠ 0) by simpa using e0))); clear HR
  have hvt := valid2_ok (HV2.out.symm.trans e0)
  clear e0
  have hws := (Facts.bel HB.out).size
  have sp := valid_size hvt.1
  have RM := rmatch_any w1.heap.size w.heap.size hws p.size p t P T cp ct none 0 [] w1 (Nat.le_refl _) hvt.1 hvt.2 (by simp; omega) (Nat.le_refl _) (RowG.nil _ _ _ _) (RepP.mono (fun _ h => h) (fun q hq => (Facts.bel HB.out).cell hq) _ _ _ HRP.out) (RepP.mono (fun _ h => h) (fun q hq => (Facts.bel HB.out).cell hq) _ _ _ HRT.out)
  obtain ⟨q, hq⟩ : ∃ q, q = p.col t [] := ⟨_, rfl⟩
  have hq' : p.col t (List.map IB.bd []) = q := hq.symm
  rw [hq'] at RM
  rw [← hq] at HR2
  have HQ := Lib.hid hq
  clear hq hq'
  simp only [Tm.val, List.length_nil] at RM
  have RM := Lib.hid RM
  obtain ⟨a0, a1, a2, a3, -⟩ := BoxT.cells HB.out.2.1
  obtain ⟨c0, c1, c2, c3, -⟩ := BoxT.cells HB.out.1
  go_wp2_with fail
  refine RM.out.mono ?_; clear RM a0 a1 a2 a3 c0 c1 c2 c3
  rintro e w2 ⟨A2, c2, its2, rfl, hm2, hn2, hr2, hb2, ho2, -⟩
  obtain ⟨q1, q2⟩ := q
  obtain ⟨A2', c2', hv2, hrep2⟩ := hr2.toB (P := fun b => b < w2.heap.size) (fun b _ h _ => h) (fun b h => (hr2.lt b h).2)
  injection hv2 with g1 g2 g3
  clear g2
  subst g1 g3
  change its2.map IB.bd = q1 at hm2
  rw [hm2] at hrep2
  have hlm : its2.length = q1.length := by rw [← hm2, List.length_map]
  have hqn : q1.length ≤ 400 := by rw [← hlm]; simp at hn2; omega
  rw [hlm]
  have HC := Lib.hid (show Facts w [.binds q1 A2 c2, .box b0 p P cp] w2 from ⟨hrep2, BoxT.below HB.out.2.1 hb2, below_then (Facts.bel HB.out) hb2 hws⟩)
  clear hm2 hn2 hr2 hb2 ho2 hrep2 hlm HB HRP HRT
  cases q2 with
  | false =>
    have hr := HR2.out.trans (if_neg (by simp))
    subst hr
    clear HR2
    go_wp2_with fail
    go_ret2
    exact matched_err (Facts.bel HC.out)
  | true =>
  have HR3 := Lib.hid (HR2.out.trans (if_pos rfl)); clear HR2
  have hcm := col_mem p t [] hvt.1 hvt.2 (by rw [← HQ.out])
  rw [← HQ.out] at hcm
  have hqs : ∀ b ∈ q1, b.1.size ≤ 400 ∧ b.2.size ≤ 400 := fun b hb => by
    rcases hcm.1 b hb with h | ⟨-, -, h1, h2, -⟩
    · cases h
    · exact ⟨valid_size h1, valid_size h2⟩
  obtain ⟨L, hL⟩ : ∃ L, L = varsOf p := ⟨_, rfl⟩
  have hLq : ∀ x ∈ L, hasS q1 x = true ∧ x.size ≤ 1000 := fun x hx => by
    rw [hL] at hx
    obtain ⟨h1, h2⟩ := varsOf_iff.1 hx
    refine ⟨hcm.2 x h1 h2, ?_⟩
    have h3 : x.size = 1 := by rw [size3, (varsOf_leaf hvt.1 x hx).1]; rfl
    omega
  have hLl : L.length ≤ 400 := by rw [hL]; have := varsOf_len p; omega
  have HQS := Lib.hid hqs
  have HLQ := Lib.hid hLq
  have HL := Lib.hid hL
  clear hcm hqs hLq hL HQ hvt HV2 n1 e1
  go_wp2_with fail
  go_loopw [9] (fun a wr => ∃ i : Nat, a = .int .i64 i ∧ i ≤ q1.length ∧ Hid (okTo q1 i 0) ∧ Hid (Facts w [.binds q1 A2 c2, .box b0 p P cp] wr)) (fun a _ => q1.length - (intOf a).toNat)
  case atStart => exact ⟨0, rfl, Nat.zero_le _, fun a b _ _ _ h => by omega, HC.out⟩
  case round =>
    clear HC
    obtain ⟨i, rfl, hi, HOK, HF⟩ := hrel
    have i1 : (0 : Int) ≤ (i : Int) := Int.natCast_nonneg _
    by_cases hlt : i < q1.length
    · have i2 : (i : Int) < (q1.length : Int) := by omega
      generalize wr = wo at *
      go_wp2_with fail
      go_loopw [10] (fun a wr => ∃ k : Nat, a = .int .i64 k ∧ k ≤ i ∧ Hid (okTo q1 i k) ∧ Hid (Facts w [.binds q1 A2 c2, .box b0 p P cp] wr)) (fun a _ => i - (intOf a).toNat)
      case atStart => exact ⟨0, rfl, Nat.zero_le _, HOK.out, HF.out⟩
      case round =>
        clear HOK HF
        obtain ⟨k, rfl, hk, HOK, HF⟩ := hrel
        have j1 : (0 : Int) ≤ (k : Int) := Int.natCast_nonneg _
        by_cases hki : k < i
        · have j2 : (k : Int) < (i : Int) := by omega
          have j3 : (k : Int) < (q1.length : Int) := by omega
          have hkl : k < q1.length := by omega
          rcases HF.out.1.2.2 with h | ⟨pb, poff, hA2, hpb, hpl⟩
          · rw [h] at hlt; simp at hlt
          subst hA2
          have hlr : RepLP wr.drew (fun b => b < wr.drew.heap.size) (flat q1) pb poff := RepLP.mono (w := wr) (w' := wr.drew) (P := fun b => b < wr.heap.size) (P' := fun b => b < wr.drew.heap.size) (fun _ h => h) (fun _ _ => rfl) _ _ _ hpb hpl
          have hpb : pb < wr.drew.heap.size := hpb
          obtain ⟨Ax, cx, Au, cu, h8a⟩ := hlr.get8 i hlt
          obtain ⟨Ay, cy, Av, cv, h8b⟩ := hlr.get8 k hkl
          obtain ⟨sx, su⟩ := HQS.out q1[i] (List.getElem_mem hlt)
          obtain ⟨sy, sv⟩ := HQS.out q1[k] (List.getElem_mem hkl)
          have HST : Hid ((q1[i].1 = q1[k].1 → q1[i].2 = q1[k].2) → okTo q1 i (k + 1)) := fun h => okTo_step HOK.out hlt hki h
          have HNO : Hid (q1[i].1 = q1[k].1 → q1[i].2 ≠ q1[k].2 → ¬ consU q1) := fun h1 h2 hc => h2 (hc _ (List.getElem_mem hlt) _ (List.getElem_mem hkl) h1)
          generalize q1[i] = ex at *
          generalize q1[k] = ey at *
          obtain ⟨x, u⟩ := ex
          obtain ⟨y, v⟩ := ey
          dsimp only at sx su sy sv HST HNO
          obtain ⟨s1, hs1⟩ : ∃ s1, s1 = decide (x = y) := ⟨_, rfl⟩
          have HS1 := Lib.hid hs1
          clear hs1 hpl HOK
          cases s1 with
          | false =>
            have HN := Lib.hid (HST.out (fun h => absurd h (of_decide_eq_false HS1.out.symm)))
            go_wp2_with fail
            refine region_cutU (fun a0 a' w' => a' = (((((((((((((((((((((((((a0.put (some 40) (.slice (some ⟨pb, poff, none⟩) q1.length c2)).put (some 41) (.int .i64 i)).put (some 42) (.pointer (some ⟨pb, poff + i * 8, none⟩))).put (some 43) (.pointer (some ⟨pb, poff + i * 8, none⟩))).put (some 44) (.agg #[.int .i64 x.kind, .string x.name, .int .i64 x.sort, .slice Ax x.kids.length cx])).put (some 45) (.slice (some ⟨pb, poff, none⟩) q1.length c2)).put (some 46) (.int .i64 k)).put (some 47) (.pointer (some ⟨pb, poff + k * 8, none⟩))).put (some 48) (.pointer (some ⟨pb, poff + k * 8, none⟩))).put (some 49) (.agg #[.int .i64 y.kind, .string y.name, .int .i64 y.sort, .slice Ay y.kids.length cy])).put (some 50) (.bool false)).put (some 51) (.bool false)).put (some 52) (undef)).put (some 53) (undef)).put (some 54) (undef)).put (some 55) (undef)).put (some 56) (undef)).put (some 57) (undef)).put (some 58) (undef)).put (some 59) (undef)).put (some 60) (undef)).put (some 61) (undef)).put (some 62) (undef)).put (some 63) (undef)).put (some 64) (.bool false)) ∧ Facts w [.binds q1 (some ⟨pb, poff, none⟩) c2, .box b0 p P cp] w') ?_ ?_
            · skip
              refine wp_region_mix4 (fun _ => True) (fun Y => Below wr.drew.heap.size wr.drew Y) [] (.held 0 (.held 1 (.held 2 (.held 3 (.held 4 (.held 5 (.held 6 (.held 7 (.held 8 (.held 9 (.op 10 (.held 11 (.held 12 (.held 13 (.held 14 (.held 15 (.held 16 (.held 17 (.held 18 (.held 19 (.held 20 (.held 21 (.held 22 (.held 23 (.held 24 .nil))))))))))))))))))))))))) mixed (by kernel_rfl) ?_
              have HD2 := Lib.hid (Facts.below (V' := wr.drew) (Below.refl _ _).drew HF.out)
              have HD2b := Lib.hid HD2.out.rebase
              generalize wr.drew = D1 at *
              refine mix5_take_g (v := .slice (some ⟨pb, poff, none⟩) q1.length c2) rfl (by kernel_rfl) rfl (fun _ _ _ h => nomatch h.1) trivial (Facts.bel HD2b.out) (fun Y _ _ => by (try simp only [Act.put]); go_simp) ?_
              simp only [Act.put, List.setIfInBounds_toArray, List.set_cons_succ, List.set_cons_zero, List.getElem_toArray, List.getElem_cons_succ, List.getElem_cons_zero]
              refine mix5_take_g (v := .int .i64 i) rfl (by kernel_rfl) rfl (fun _ _ _ h => nomatch h.1) trivial (Facts.bel HD2b.out) (fun Y _ _ => by (try simp only [Act.put]); go_simp) ?_
              simp only [Act.put, List.setIfInBounds_toArray, List.set_cons_succ, List.set_cons_zero, List.getElem_toArray, List.getElem_cons_succ, List.getElem_cons_zero]
              refine mix5_take_g (v := .pointer (some ⟨pb, poff + i * 8, none⟩)) rfl (by kernel_rfl) rfl (fun _ _ _ h => nomatch h.1) trivial (Facts.bel HD2b.out) (fun Y _ _ => by (try simp only [Act.put]); go_simp) ?_
              simp only [Act.put, List.setIfInBounds_toArray, List.set_cons_succ, List.set_cons_zero, List.getElem_toArray, List.getElem_cons_succ, List.getElem_cons_zero]
              refine mix5_take_g (v := .pointer (some ⟨pb, poff + i * 8, none⟩)) rfl (by kernel_rfl) rfl (fun _ _ _ h => nomatch h.1) trivial (Facts.bel HD2b.out) (fun Y _ _ => by (try simp only [Act.put]); go_simp) ?_
              simp only [Act.put, List.setIfInBounds_toArray, List.set_cons_succ, List.set_cons_zero, List.getElem_toArray, List.getElem_cons_succ, List.getElem_cons_zero]
              refine mix5_take_g (v := .agg #[.int .i64 x.kind, .string x.name, .int .i64 x.sort, .slice Ax x.kids.length cx]) rfl (by kernel_rfl) rfl (fun _ _ _ h => nomatch h.1) trivial (Facts.bel HD2b.out) (fun Y _ hY => by
                have z0 := (hY.cell (p := ⟨pb, poff + i * 8, none⟩) hpb).trans h8a.c0
                have z1 := (hY.cell (p := ⟨pb, poff + i * 8 + 1, none⟩) hpb).trans h8a.c1
                have z2 := (hY.cell (p := ⟨pb, poff + i * 8 + 2, none⟩) hpb).trans h8a.c2
                have z3 := (hY.cell (p := ⟨pb, poff + i * 8 + 3, none⟩) hpb).trans h8a.c3
                (try simp only [Act.put]); go_simp) ?_
              simp only [Act.put, List.setIfInBounds_toArray, List.set_cons_succ, List.set_cons_zero, List.getElem_toArray, List.getElem_cons_succ, List.getElem_cons_zero]
              refine mix5_take_g (v := .slice (some ⟨pb, poff, none⟩) q1.length c2) rfl (by kernel_rfl) rfl (fun _ _ _ h => nomatch h.1) trivial (Facts.bel HD2b.out) (fun Y _ _ => by (try simp only [Act.put]); go_simp) ?_
              simp only [Act.put, List.setIfInBounds_toArray, List.set_cons_succ, List.set_cons_zero, List.getElem_toArray, List.getElem_cons_succ, List.getElem_cons_zero]
              refine mix5_take_g (v := .int .i64 k) rfl (by kernel_rfl) rfl (fun _ _ _ h => nomatch h.1) trivial (Facts.bel HD2b.out) (fun Y _ _ => by (try simp only [Act.put]); go_simp) ?_
              simp only [Act.put, List.setIfInBounds_toArray, List.set_cons_succ, List.set_cons_zero, List.getElem_toArray, List.getElem_cons_succ, List.getElem_cons_zero]
              refine mix5_take_g (v := .pointer (some ⟨pb, poff + k * 8, none⟩)) rfl (by kernel_rfl) rfl (fun _ _ _ h => nomatch h.1) trivial (Facts.bel HD2b.out) (fun Y _ _ => by (try simp only [Act.put]); go_simp) ?_
              simp only [Act.put, List.setIfInBounds_toArray, List.set_cons_succ, List.set_cons_zero, List.getElem_toArray, List.getElem_cons_succ, List.getElem_cons_zero]
              refine mix5_take_g (v := .pointer (some ⟨pb, poff + k * 8, none⟩)) rfl (by kernel_rfl) rfl (fun _ _ _ h => nomatch h.1) trivial (Facts.bel HD2b.out) (fun Y _ _ => by (try simp only [Act.put]); go_simp) ?_
              simp only [Act.put, List.setIfInBounds_toArray, List.set_cons_succ, List.set_cons_zero, List.getElem_toArray, List.getElem_cons_succ, List.getElem_cons_zero]
              refine mix5_take_g (v := .agg #[.int .i64 y.kind, .string y.name, .int .i64 y.sort, .slice Ay y.kids.length cy]) rfl (by kernel_rfl) rfl (fun _ _ _ h => nomatch h.1) trivial (Facts.bel HD2b.out) (fun Y _ hY => by
                have z0 := (hY.cell (p := ⟨pb, poff + k * 8, none⟩) hpb).trans h8b.c0
                have z1 := (hY.cell (p := ⟨pb, poff + k * 8 + 1, none⟩) hpb).trans h8b.c1
                have z2 := (hY.cell (p := ⟨pb, poff + k * 8 + 2, none⟩) hpb).trans h8b.c2
                have z3 := (hY.cell (p := ⟨pb, poff + k * 8 + 3, none⟩) hpb).trans h8b.c3
                (try simp only [Act.put]); go_simp) ?_
              simp only [Act.put, List.setIfInBounds_toArray, List.set_cons_succ, List.set_cons_zero, List.getElem_toArray, List.getElem_cons_succ, List.getElem_cons_zero]
              refine mix4_op_g rfl (by kernel_rfl) (fun K hK => ?_)
              have C3 := rsame_any x y Ax Ay cx cy D1 (by omega) (by omega) (RepT.go h8a.r1 (Facts.bel HD2b.out) (Facts.bel HD2b.out).size) (RepT.go h8b.r1 (Facts.bel HD2b.out) (Facts.bel HD2b.out).size)
              rw [same_decM, ← HS1.out] at C3
              simp only [Tm.val] at C3
              have C3 := Lib.hid C3
              go_wp2_with fail
              refine C3.out.mono ?_; clear C3
              rintro e w4 ⟨rfl, hb5⟩
              have HF6 := Lib.hid (Facts.below hb5.below HD2b.out)
              refine hK _ _ ⟨⟨fun _ => trivial, Facts.bel HF6.out⟩, ?_⟩
              clear hK K
              clear HD2b
              clear hb5
              refine mix5_take_g (v := .bool false) rfl (by kernel_rfl) rfl (fun _ _ _ h => nomatch h.1) trivial (Facts.bel HF6.out) (fun Y _ _ => by (try simp only [Act.put]); go_simp) ?_
              simp only [Act.put, List.setIfInBounds_toArray, List.set_cons_succ, List.set_cons_zero, List.getElem_toArray, List.getElem_cons_succ, List.getElem_cons_zero]
              refine mix5_off rfl (by kernel_rfl) rfl (fun _ _ _ h => nomatch h.1) trivial (Facts.bel HF6.out) ?_
              simp only [Act.put, List.setIfInBounds_toArray, List.set_cons_succ, List.set_cons_zero, List.getElem_toArray, List.getElem_cons_succ, List.getElem_cons_zero]
              refine mix5_off rfl (by kernel_rfl) rfl (fun _ _ _ h => nomatch h.1) trivial (Facts.bel HF6.out) ?_
              simp only [Act.put, List.setIfInBounds_toArray, List.set_cons_succ, List.set_cons_zero, List.getElem_toArray, List.getElem_cons_succ, List.getElem_cons_zero]
              refine mix5_off rfl (by kernel_rfl) rfl (fun _ _ _ h => nomatch h.1) trivial (Facts.bel HF6.out) ?_
              simp only [Act.put, List.setIfInBounds_toArray, List.set_cons_succ, List.set_cons_zero, List.getElem_toArray, List.getElem_cons_succ, List.getElem_cons_zero]
              refine mix5_off rfl (by kernel_rfl) rfl (fun _ _ _ h => nomatch h.1) trivial (Facts.bel HF6.out) ?_
              simp only [Act.put, List.setIfInBounds_toArray, List.set_cons_succ, List.set_cons_zero, List.getElem_toArray, List.getElem_cons_succ, List.getElem_cons_zero]
              refine mix5_off rfl (by kernel_rfl) rfl (fun _ _ _ h => nomatch h.1) trivial (Facts.bel HF6.out) ?_
              simp only [Act.put, List.setIfInBounds_toArray, List.set_cons_succ, List.set_cons_zero, List.getElem_toArray, List.getElem_cons_succ, List.getElem_cons_zero]
              refine mix5_off rfl (by kernel_rfl) rfl (fun _ _ _ h => nomatch h.1) trivial (Facts.bel HF6.out) ?_
              simp only [Act.put, List.setIfInBounds_toArray, List.set_cons_succ, List.set_cons_zero, List.getElem_toArray, List.getElem_cons_succ, List.getElem_cons_zero]
              refine mix5_off rfl (by kernel_rfl) rfl (fun _ _ _ h => nomatch h.1) trivial (Facts.bel HF6.out) ?_
              simp only [Act.put, List.setIfInBounds_toArray, List.set_cons_succ, List.set_cons_zero, List.getElem_toArray, List.getElem_cons_succ, List.getElem_cons_zero]
              refine mix5_off rfl (by kernel_rfl) rfl (fun _ _ _ h => nomatch h.1) trivial (Facts.bel HF6.out) ?_
              simp only [Act.put, List.setIfInBounds_toArray, List.set_cons_succ, List.set_cons_zero, List.getElem_toArray, List.getElem_cons_succ, List.getElem_cons_zero]
              refine mix5_off rfl (by kernel_rfl) rfl (fun _ _ _ h => nomatch h.1) trivial (Facts.bel HF6.out) ?_
              simp only [Act.put, List.setIfInBounds_toArray, List.set_cons_succ, List.set_cons_zero, List.getElem_toArray, List.getElem_cons_succ, List.getElem_cons_zero]
              refine mix5_off rfl (by kernel_rfl) rfl (fun _ _ _ h => nomatch h.1) trivial (Facts.bel HF6.out) ?_
              simp only [Act.put, List.setIfInBounds_toArray, List.set_cons_succ, List.set_cons_zero, List.getElem_toArray, List.getElem_cons_succ, List.getElem_cons_zero]
              refine mix5_off rfl (by kernel_rfl) rfl (fun _ _ _ h => nomatch h.1) trivial (Facts.bel HF6.out) ?_
              simp only [Act.put, List.setIfInBounds_toArray, List.set_cons_succ, List.set_cons_zero, List.getElem_toArray, List.getElem_cons_succ, List.getElem_cons_zero]
              refine mix5_off rfl (by kernel_rfl) rfl (fun _ _ _ h => nomatch h.1) trivial (Facts.bel HF6.out) ?_
              simp only [Act.put, List.setIfInBounds_toArray, List.set_cons_succ, List.set_cons_zero, List.getElem_toArray, List.getElem_cons_succ, List.getElem_cons_zero]
              refine mix5_take_g (v := .bool false) rfl (by kernel_rfl) rfl (fun _ _ _ h => nomatch h.1) trivial (Facts.bel HF6.out) (fun Y _ _ => by (try simp only [Act.put]); go_simp) ?_
              simp only [Act.put, List.setIfInBounds_toArray, List.set_cons_succ, List.set_cons_zero, List.getElem_toArray, List.getElem_cons_succ, List.getElem_cons_zero]
              refine mix4_nil ?_
              exact ⟨rfl, by kernel_rfl, (show Facts D1 [.binds q1 (some ⟨pb, poff, none⟩) c2, .box b0 p P cp] w4 from ⟨HF6.out.1, HF6.out.2.1, Facts.bel HF6.out⟩).unbase (Facts.bel HD2.out)⟩
            rintro a' w7 ⟨rfl, hF⟩
            have HF8 := Lib.hid hF
            clear hF
            simp only [Act.put, List.setIfInBounds_toArray, List.set_cons_succ, List.set_cons_zero, List.getElem_toArray, List.getElem_cons_succ, List.getElem_cons_zero]
            clear h8a h8b hlr
            go_wp2_with fail
            go_roundw
            case rel => exact ⟨k + 1, by go_num, by omega, HN.out, HF8.out⟩
            case measure => simp [intOf]; omega
          | true =>
            obtain ⟨s2, hs2⟩ : ∃ s2, s2 = decide (u = v) := ⟨_, rfl⟩
            have HS2 := Lib.hid hs2
            clear hs2
            cases s2 with
            | true =>
              have HN := Lib.hid (HST.out (fun _ => of_decide_eq_true HS2.out.symm))
              go_wp2_with fail
              refine region_cutU (fun a0 a' w' => a' = (((((((((((((((((((((((((a0.put (some 40) (.slice (some ⟨pb, poff, none⟩) q1.length c2)).put (some 41) (.int .i64 i)).put (some 42) (.pointer (some ⟨pb, poff + i * 8, none⟩))).put (some 43) (.pointer (some ⟨pb, poff + i * 8, none⟩))).put (some 44) (.agg #[.int .i64 x.kind, .string x.name, .int .i64 x.sort, .slice Ax x.kids.length cx])).put (some 45) (.slice (some ⟨pb, poff, none⟩) q1.length c2)).put (some 46) (.int .i64 k)).put (some 47) (.pointer (some ⟨pb, poff + k * 8, none⟩))).put (some 48) (.pointer (some ⟨pb, poff + k * 8, none⟩))).put (some 49) (.agg #[.int .i64 y.kind, .string y.name, .int .i64 y.sort, .slice Ay y.kids.length cy])).put (some 50) (.bool true)).put (some 51) (.bool true)).put (some 52) (.slice (some ⟨pb, poff, none⟩) q1.length c2)).put (some 53) (.int .i64 i)).put (some 54) (.pointer (some ⟨pb, poff + i * 8, none⟩))).put (some 55) (.pointer (some ⟨pb, poff + i * 8 + 4, none⟩))).put (some 56) (.agg #[.int .i64 u.kind, .string u.name, .int .i64 u.sort, .slice Au u.kids.length cu])).put (some 57) (.slice (some ⟨pb, poff, none⟩) q1.length c2)).put (some 58) (.int .i64 k)).put (some 59) (.pointer (some ⟨pb, poff + k * 8, none⟩))).put (some 60) (.pointer (some ⟨pb, poff + k * 8 + 4, none⟩))).put (some 61) (.agg #[.int .i64 v.kind, .string v.name, .int .i64 v.sort, .slice Av v.kids.length cv])).put (some 62) (.bool true)).put (some 63) (.bool false)).put (some 64) (.bool false)) ∧ Facts w [.binds q1 (some ⟨pb, poff, none⟩) c2, .box b0 p P cp] w') ?_ ?_
              · skip
                refine wp_region_mix4 (fun _ => True) (fun Y => Below wr.drew.heap.size wr.drew Y) [] (.held 0 (.held 1 (.held 2 (.held 3 (.held 4 (.held 5 (.held 6 (.held 7 (.held 8 (.held 9 (.op 10 (.held 11 (.held 12 (.held 13 (.held 14 (.held 15 (.held 16 (.held 17 (.held 18 (.held 19 (.held 20 (.held 21 (.op 22 (.held 23 (.held 24 .nil))))))))))))))))))))))))) mixed (by kernel_rfl) ?_
                have HD10 := Lib.hid (Facts.below (V' := wr.drew) (Below.refl _ _).drew HF.out)
                have HD10b := Lib.hid HD10.out.rebase
                generalize wr.drew = D9 at *
                refine mix5_take_g (v := .slice (some ⟨pb, poff, none⟩) q1.length c2) rfl (by kernel_rfl) rfl (fun _ _ _ h => nomatch h.1) trivial (Facts.bel HD10b.out) (fun Y _ _ => by (try simp only [Act.put]); go_simp) ?_
                simp only [Act.put, List.setIfInBounds_toArray, List.set_cons_succ, List.set_cons_zero, List.getElem_toArray, List.getElem_cons_succ, List.getElem_cons_zero]
                refine mix5_take_g (v := .int .i64 i) rfl (by kernel_rfl) rfl (fun _ _ _ h => nomatch h.1) trivial (Facts.bel HD10b.out) (fun Y _ _ => by (try simp only [Act.put]); go_simp) ?_
                simp only [Act.put, List.setIfInBounds_toArray, List.set_cons_succ, List.set_cons_zero, List.getElem_toArray, List.getElem_cons_succ, List.getElem_cons_zero]
                refine mix5_take_g (v := .pointer (some ⟨pb, poff + i * 8, none⟩)) rfl (by kernel_rfl) rfl (fun _ _ _ h => nomatch h.1) trivial (Facts.bel HD10b.out) (fun Y _ _ => by (try simp only [Act.put]); go_simp) ?_
                simp only [Act.put, List.setIfInBounds_toArray, List.set_cons_succ, List.set_cons_zero, List.getElem_toArray, List.getElem_cons_succ, List.getElem_cons_zero]
                refine mix5_take_g (v := .pointer (some ⟨pb, poff + i * 8, none⟩)) rfl (by kernel_rfl) rfl (fun _ _ _ h => nomatch h.1) trivial (Facts.bel HD10b.out) (fun Y _ _ => by (try simp only [Act.put]); go_simp) ?_
                simp only [Act.put, List.setIfInBounds_toArray, List.set_cons_succ, List.set_cons_zero, List.getElem_toArray, List.getElem_cons_succ, List.getElem_cons_zero]
                refine mix5_take_g (v := .agg #[.int .i64 x.kind, .string x.name, .int .i64 x.sort, .slice Ax x.kids.length cx]) rfl (by kernel_rfl) rfl (fun _ _ _ h => nomatch h.1) trivial (Facts.bel HD10b.out) (fun Y _ hY => by
                  have z0 := (hY.cell (p := ⟨pb, poff + i * 8, none⟩) hpb).trans h8a.c0
                  have z1 := (hY.cell (p := ⟨pb, poff + i * 8 + 1, none⟩) hpb).trans h8a.c1
                  have z2 := (hY.cell (p := ⟨pb, poff + i * 8 + 2, none⟩) hpb).trans h8a.c2
                  have z3 := (hY.cell (p := ⟨pb, poff + i * 8 + 3, none⟩) hpb).trans h8a.c3
                  (try simp only [Act.put]); go_simp) ?_
                simp only [Act.put, List.setIfInBounds_toArray, List.set_cons_succ, List.set_cons_zero, List.getElem_toArray, List.getElem_cons_succ, List.getElem_cons_zero]
                refine mix5_take_g (v := .slice (some ⟨pb, poff, none⟩) q1.length c2) rfl (by kernel_rfl) rfl (fun _ _ _ h => nomatch h.1) trivial (Facts.bel HD10b.out) (fun Y _ _ => by (try simp only [Act.put]); go_simp) ?_
                simp only [Act.put, List.setIfInBounds_toArray, List.set_cons_succ, List.set_cons_zero, List.getElem_toArray, List.getElem_cons_succ, List.getElem_cons_zero]
                refine mix5_take_g (v := .int .i64 k) rfl (by kernel_rfl) rfl (fun _ _ _ h => nomatch h.1) trivial (Facts.bel HD10b.out) (fun Y _ _ => by (try simp only [Act.put]); go_simp) ?_
                simp only [Act.put, List.setIfInBounds_toArray, List.set_cons_succ, List.set_cons_zero, List.getElem_toArray, List.getElem_cons_succ, List.getElem_cons_zero]
                refine mix5_take_g (v := .pointer (some ⟨pb, poff + k * 8, none⟩)) rfl (by kernel_rfl) rfl (fun _ _ _ h => nomatch h.1) trivial (Facts.bel HD10b.out) (fun Y _ _ => by (try simp only [Act.put]); go_simp) ?_
                simp only [Act.put, List.setIfInBounds_toArray, List.set_cons_succ, List.set_cons_zero, List.getElem_toArray, List.getElem_cons_succ, List.getElem_cons_zero]
                refine mix5_take_g (v := .pointer (some ⟨pb, poff + k * 8, none⟩)) rfl (by kernel_rfl) rfl (fun _ _ _ h => nomatch h.1) trivial (Facts.bel HD10b.out) (fun Y _ _ => by (try simp only [Act.put]); go_simp) ?_
                simp only [Act.put, List.setIfInBounds_toArray, List.set_cons_succ, List.set_cons_zero, List.getElem_toArray, List.getElem_cons_succ, List.getElem_cons_zero]
                refine mix5_take_g (v := .agg #[.int .i64 y.kind, .string y.name, .int .i64 y.sort, .slice Ay y.kids.length cy]) rfl (by kernel_rfl) rfl (fun _ _ _ h => nomatch h.1) trivial (Facts.bel HD10b.out) (fun Y _ hY => by
                  have z0 := (hY.cell (p := ⟨pb, poff + k * 8, none⟩) hpb).trans h8b.c0
                  have z1 := (hY.cell (p := ⟨pb, poff + k * 8 + 1, none⟩) hpb).trans h8b.c1
                  have z2 := (hY.cell (p := ⟨pb, poff + k * 8 + 2, none⟩) hpb).trans h8b.c2
                  have z3 := (hY.cell (p := ⟨pb, poff + k * 8 + 3, none⟩) hpb).trans h8b.c3
                  (try simp only [Act.put]); go_simp) ?_
                simp only [Act.put, List.setIfInBounds_toArray, List.set_cons_succ, List.set_cons_zero, List.getElem_toArray, List.getElem_cons_succ, List.getElem_cons_zero]
                refine mix4_op_g rfl (by kernel_rfl) (fun K hK => ?_)
                have C11 := rsame_any x y Ax Ay cx cy D9 (by omega) (by omega) (RepT.go h8a.r1 (Facts.bel HD10b.out) (Facts.bel HD10b.out).size) (RepT.go h8b.r1 (Facts.bel HD10b.out) (Facts.bel HD10b.out).size)
                rw [same_decM, ← HS1.out] at C11
                simp only [Tm.val] at C11
                have C11 := Lib.hid C11
                go_wp2_with fail
                refine C11.out.mono ?_; clear C11
                rintro e w12 ⟨rfl, hb13⟩
                have HF14 := Lib.hid (Facts.below hb13.below HD10b.out)
                refine hK _ _ ⟨⟨fun _ => trivial, Facts.bel HF14.out⟩, ?_⟩
                clear hK K
                clear HD10b
                clear hb13
                refine mix5_take_g (v := .bool true) rfl (by kernel_rfl) rfl (fun _ _ _ h => nomatch h.1) trivial (Facts.bel HF14.out) (fun Y _ _ => by (try simp only [Act.put]); go_simp) ?_
                simp only [Act.put, List.setIfInBounds_toArray, List.set_cons_succ, List.set_cons_zero, List.getElem_toArray, List.getElem_cons_succ, List.getElem_cons_zero]
                refine mix5_take_g (v := .slice (some ⟨pb, poff, none⟩) q1.length c2) rfl (by kernel_rfl) rfl (fun _ _ _ h => nomatch h.1) trivial (Facts.bel HF14.out) (fun Y _ _ => by (try simp only [Act.put]); go_simp) ?_
                simp only [Act.put, List.setIfInBounds_toArray, List.set_cons_succ, List.set_cons_zero, List.getElem_toArray, List.getElem_cons_succ, List.getElem_cons_zero]
                refine mix5_take_g (v := .int .i64 i) rfl (by kernel_rfl) rfl (fun _ _ _ h => nomatch h.1) trivial (Facts.bel HF14.out) (fun Y _ _ => by (try simp only [Act.put]); go_simp) ?_
                simp only [Act.put, List.setIfInBounds_toArray, List.set_cons_succ, List.set_cons_zero, List.getElem_toArray, List.getElem_cons_succ, List.getElem_cons_zero]
                refine mix5_take_g (v := .pointer (some ⟨pb, poff + i * 8, none⟩)) rfl (by kernel_rfl) rfl (fun _ _ _ h => nomatch h.1) trivial (Facts.bel HF14.out) (fun Y _ _ => by (try simp only [Act.put]); go_simp) ?_
                simp only [Act.put, List.setIfInBounds_toArray, List.set_cons_succ, List.set_cons_zero, List.getElem_toArray, List.getElem_cons_succ, List.getElem_cons_zero]
                refine mix5_take_g (v := .pointer (some ⟨pb, poff + i * 8 + 4, none⟩)) rfl (by kernel_rfl) rfl (fun _ _ _ h => nomatch h.1) trivial (Facts.bel HF14.out) (fun Y _ _ => by (try simp only [Act.put]); go_simp) ?_
                simp only [Act.put, List.setIfInBounds_toArray, List.set_cons_succ, List.set_cons_zero, List.getElem_toArray, List.getElem_cons_succ, List.getElem_cons_zero]
                refine mix5_take_g (v := .agg #[.int .i64 u.kind, .string u.name, .int .i64 u.sort, .slice Au u.kids.length cu]) rfl (by kernel_rfl) rfl (fun _ _ _ h => nomatch h.1) trivial (Facts.bel HF14.out) (fun Y _ hY => by
                  have z0 := (hY.cell (p := ⟨pb, poff + i * 8 + 4, none⟩) hpb).trans h8a.c4
                  have z1 := (hY.cell (p := ⟨pb, poff + i * 8 + 5, none⟩) hpb).trans h8a.c5
                  have z2 := (hY.cell (p := ⟨pb, poff + i * 8 + 6, none⟩) hpb).trans h8a.c6
                  have z3 := (hY.cell (p := ⟨pb, poff + i * 8 + 7, none⟩) hpb).trans h8a.c7
                  (try simp only [Act.put]); go_simp) ?_
                simp only [Act.put, List.setIfInBounds_toArray, List.set_cons_succ, List.set_cons_zero, List.getElem_toArray, List.getElem_cons_succ, List.getElem_cons_zero]
                refine mix5_take_g (v := .slice (some ⟨pb, poff, none⟩) q1.length c2) rfl (by kernel_rfl) rfl (fun _ _ _ h => nomatch h.1) trivial (Facts.bel HF14.out) (fun Y _ _ => by (try simp only [Act.put]); go_simp) ?_
                simp only [Act.put, List.setIfInBounds_toArray, List.set_cons_succ, List.set_cons_zero, List.getElem_toArray, List.getElem_cons_succ, List.getElem_cons_zero]
                refine mix5_take_g (v := .int .i64 k) rfl (by kernel_rfl) rfl (fun _ _ _ h => nomatch h.1) trivial (Facts.bel HF14.out) (fun Y _ _ => by (try simp only [Act.put]); go_simp) ?_
                simp only [Act.put, List.setIfInBounds_toArray, List.set_cons_succ, List.set_cons_zero, List.getElem_toArray, List.getElem_cons_succ, List.getElem_cons_zero]
                refine mix5_take_g (v := .pointer (some ⟨pb, poff + k * 8, none⟩)) rfl (by kernel_rfl) rfl (fun _ _ _ h => nomatch h.1) trivial (Facts.bel HF14.out) (fun Y _ _ => by (try simp only [Act.put]); go_simp) ?_
                simp only [Act.put, List.setIfInBounds_toArray, List.set_cons_succ, List.set_cons_zero, List.getElem_toArray, List.getElem_cons_succ, List.getElem_cons_zero]
                refine mix5_take_g (v := .pointer (some ⟨pb, poff + k * 8 + 4, none⟩)) rfl (by kernel_rfl) rfl (fun _ _ _ h => nomatch h.1) trivial (Facts.bel HF14.out) (fun Y _ _ => by (try simp only [Act.put]); go_simp) ?_
                simp only [Act.put, List.setIfInBounds_toArray, List.set_cons_succ, List.set_cons_zero, List.getElem_toArray, List.getElem_cons_succ, List.getElem_cons_zero]
                refine mix5_take_g (v := .agg #[.int .i64 v.kind, .string v.name, .int .i64 v.sort, .slice Av v.kids.length cv]) rfl (by kernel_rfl) rfl (fun _ _ _ h => nomatch h.1) trivial (Facts.bel HF14.out) (fun Y _ hY => by
                  have z0 := (hY.cell (p := ⟨pb, poff + k * 8 + 4, none⟩) hpb).trans h8b.c4
                  have z1 := (hY.cell (p := ⟨pb, poff + k * 8 + 5, none⟩) hpb).trans h8b.c5
                  have z2 := (hY.cell (p := ⟨pb, poff + k * 8 + 6, none⟩) hpb).trans h8b.c6
                  have z3 := (hY.cell (p := ⟨pb, poff + k * 8 + 7, none⟩) hpb).trans h8b.c7
                  (try simp only [Act.put]); go_simp) ?_
                simp only [Act.put, List.setIfInBounds_toArray, List.set_cons_succ, List.set_cons_zero, List.getElem_toArray, List.getElem_cons_succ, List.getElem_cons_zero]
                refine mix4_op_g rfl (by kernel_rfl) (fun K hK => ?_)
                have C15 := rsame_any u v Au Av cu cv w12 (by omega) (by omega) (RepT.go h8a.r2 (Facts.bel HF14.out) (Facts.bel HF14.out).size) (RepT.go h8b.r2 (Facts.bel HF14.out) (Facts.bel HF14.out).size)
                rw [same_decM, ← HS2.out] at C15
                simp only [Tm.val] at C15
                have C15 := Lib.hid C15
                go_wp2_with fail
                refine C15.out.mono ?_; clear C15
                rintro e w16 ⟨rfl, hb17⟩
                have HF18 := Lib.hid (Facts.below hb17.below HF14.out)
                refine hK _ _ ⟨⟨fun _ => trivial, Facts.bel HF18.out⟩, ?_⟩
                clear hK K
                clear HF14
                clear hb17
                refine mix5_take_g (v := .bool false) rfl (by kernel_rfl) rfl (fun _ _ _ h => nomatch h.1) trivial (Facts.bel HF18.out) (fun Y _ _ => by (try simp only [Act.put]); go_simp) ?_
                simp only [Act.put, List.setIfInBounds_toArray, List.set_cons_succ, List.set_cons_zero, List.getElem_toArray, List.getElem_cons_succ, List.getElem_cons_zero]
                refine mix5_take_g (v := .bool false) rfl (by kernel_rfl) rfl (fun _ _ _ h => nomatch h.1) trivial (Facts.bel HF18.out) (fun Y _ _ => by (try simp only [Act.put]); go_simp) ?_
                simp only [Act.put, List.setIfInBounds_toArray, List.set_cons_succ, List.set_cons_zero, List.getElem_toArray, List.getElem_cons_succ, List.getElem_cons_zero]
                refine mix4_nil ?_
                exact ⟨rfl, by kernel_rfl, (show Facts D9 [.binds q1 (some ⟨pb, poff, none⟩) c2, .box b0 p P cp] w16 from ⟨HF18.out.1, HF18.out.2.1, Facts.bel HF18.out⟩).unbase (Facts.bel HD10.out)⟩
              rintro a' w19 ⟨rfl, hF⟩
              have HF20 := Lib.hid hF
              clear hF
              simp only [Act.put, List.setIfInBounds_toArray, List.set_cons_succ, List.set_cons_zero, List.getElem_toArray, List.getElem_cons_succ, List.getElem_cons_zero]
              clear h8a h8b hlr
              go_wp2_with fail
              go_roundw
              case rel => exact ⟨k + 1, by go_num, by omega, HN.out, HF20.out⟩
              case measure => simp [intOf]; omega
            | false =>
              have hr := HR3.out.trans (if_neg (HNO.out (of_decide_eq_true HS1.out.symm) (of_decide_eq_false HS2.out.symm)))
              subst hr
              clear HR3
              go_wp2_with fail
              refine region_cutU (fun a0 a' w' => a' = (((((((((((((((((((((((((a0.put (some 40) (.slice (some ⟨pb, poff, none⟩) q1.length c2)).put (some 41) (.int .i64 i)).put (some 42) (.pointer (some ⟨pb, poff + i * 8, none⟩))).put (some 43) (.pointer (some ⟨pb, poff + i * 8, none⟩))).put (some 44) (.agg #[.int .i64 x.kind, .string x.name, .int .i64 x.sort, .slice Ax x.kids.length cx])).put (some 45) (.slice (some ⟨pb, poff, none⟩) q1.length c2)).put (some 46) (.int .i64 k)).put (some 47) (.pointer (some ⟨pb, poff + k * 8, none⟩))).put (some 48) (.pointer (some ⟨pb, poff + k * 8, none⟩))).put (some 49) (.agg #[.int .i64 y.kind, .string y.name, .int .i64 y.sort, .slice Ay y.kids.length cy])).put (some 50) (.bool true)).put (some 51) (.bool true)).put (some 52) (.slice (some ⟨pb, poff, none⟩) q1.length c2)).put (some 53) (.int .i64 i)).put (some 54) (.pointer (some ⟨pb, poff + i * 8, none⟩))).put (some 55) (.pointer (some ⟨pb, poff + i * 8 + 4, none⟩))).put (some 56) (.agg #[.int .i64 u.kind, .string u.name, .int .i64 u.sort, .slice Au u.kids.length cu])).put (some 57) (.slice (some ⟨pb, poff, none⟩) q1.length c2)).put (some 58) (.int .i64 k)).put (some 59) (.pointer (some ⟨pb, poff + k * 8, none⟩))).put (some 60) (.pointer (some ⟨pb, poff + k * 8 + 4, none⟩))).put (some 61) (.agg #[.int .i64 v.kind, .string v.name, .int .i64 v.sort, .slice Av v.kids.length cv])).put (some 62) (.bool false)).put (some 63) (.bool true)).put (some 64) (.bool true)) ∧ Facts w [.binds q1 (some ⟨pb, poff, none⟩) c2, .box b0 p P cp] w') ?_ ?_
              · skip
                refine wp_region_mix4 (fun _ => True) (fun Y => Below wr.drew.heap.size wr.drew Y) [] (.held 0 (.held 1 (.held 2 (.held 3 (.held 4 (.held 5 (.held 6 (.held 7 (.held 8 (.held 9 (.op 10 (.held 11 (.held 12 (.held 13 (.held 14 (.held 15 (.held 16 (.held 17 (.held 18 (.held 19 (.held 20 (.held 21 (.op 22 (.held 23 (.held 24 .nil))))))))))))))))))))))))) mixed (by kernel_rfl) ?_
                have HD22 := Lib.hid (Facts.below (V' := wr.drew) (Below.refl _ _).drew HF.out)
                have HD22b := Lib.hid HD22.out.rebase
                generalize wr.drew = D21 at *
                refine mix5_take_g (v := .slice (some ⟨pb, poff, none⟩) q1.length c2) rfl (by kernel_rfl) rfl (fun _ _ _ h => nomatch h.1) trivial (Facts.bel HD22b.out) (fun Y _ _ => by (try simp only [Act.put]); go_simp) ?_
                simp only [Act.put, List.setIfInBounds_toArray, List.set_cons_succ, List.set_cons_zero, List.getElem_toArray, List.getElem_cons_succ, List.getElem_cons_zero]
                refine mix5_take_g (v := .int .i64 i) rfl (by kernel_rfl) rfl (fun _ _ _ h => nomatch h.1) trivial (Facts.bel HD22b.out) (fun Y _ _ => by (try simp only [Act.put]); go_simp) ?_
                simp only [Act.put, List.setIfInBounds_toArray, List.set_cons_succ, List.set_cons_zero, List.getElem_toArray, List.getElem_cons_succ, List.getElem_cons_zero]
                refine mix5_take_g (v := .pointer (some ⟨pb, poff + i * 8, none⟩)) rfl (by kernel_rfl) rfl (fun _ _ _ h => nomatch h.1) trivial (Facts.bel HD22b.out) (fun Y _ _ => by (try simp only [Act.put]); go_simp) ?_
                simp only [Act.put, List.setIfInBounds_toArray, List.set_cons_succ, List.set_cons_zero, List.getElem_toArray, List.getElem_cons_succ, List.getElem_cons_zero]
                refine mix5_take_g (v := .pointer (some ⟨pb, poff + i * 8, none⟩)) rfl (by kernel_rfl) rfl (fun _ _ _ h => nomatch h.1) trivial (Facts.bel HD22b.out) (fun Y _ _ => by (try simp only [Act.put]); go_simp) ?_
                simp only [Act.put, List.setIfInBounds_toArray, List.set_cons_succ, List.set_cons_zero, List.getElem_toArray, List.getElem_cons_succ, List.getElem_cons_zero]
                refine mix5_take_g (v := .agg #[.int .i64 x.kind, .string x.name, .int .i64 x.sort, .slice Ax x.kids.length cx]) rfl (by kernel_rfl) rfl (fun _ _ _ h => nomatch h.1) trivial (Facts.bel HD22b.out) (fun Y _ hY => by
                  have z0 := (hY.cell (p := ⟨pb, poff + i * 8, none⟩) hpb).trans h8a.c0
                  have z1 := (hY.cell (p := ⟨pb, poff + i * 8 + 1, none⟩) hpb).trans h8a.c1
                  have z2 := (hY.cell (p := ⟨pb, poff + i * 8 + 2, none⟩) hpb).trans h8a.c2
                  have z3 := (hY.cell (p := ⟨pb, poff + i * 8 + 3, none⟩) hpb).trans h8a.c3
                  (try simp only [Act.put]); go_simp) ?_
                simp only [Act.put, List.setIfInBounds_toArray, List.set_cons_succ, List.set_cons_zero, List.getElem_toArray, List.getElem_cons_succ, List.getElem_cons_zero]
                refine mix5_take_g (v := .slice (some ⟨pb, poff, none⟩) q1.length c2) rfl (by kernel_rfl) rfl (fun _ _ _ h => nomatch h.1) trivial (Facts.bel HD22b.out) (fun Y _ _ => by (try simp only [Act.put]); go_simp) ?_
                simp only [Act.put, List.setIfInBounds_toArray, List.set_cons_succ, List.set_cons_zero, List.getElem_toArray, List.getElem_cons_succ, List.getElem_cons_zero]
                refine mix5_take_g (v := .int .i64 k) rfl (by kernel_rfl) rfl (fun _ _ _ h => nomatch h.1) trivial (Facts.bel HD22b.out) (fun Y _ _ => by (try simp only [Act.put]); go_simp) ?_
                simp only [Act.put, List.setIfInBounds_toArray, List.set_cons_succ, List.set_cons_zero, List.getElem_toArray, List.getElem_cons_succ, List.getElem_cons_zero]
                refine mix5_take_g (v := .pointer (some ⟨pb, poff + k * 8, none⟩)) rfl (by kernel_rfl) rfl (fun _ _ _ h => nomatch h.1) trivial (Facts.bel HD22b.out) (fun Y _ _ => by (try simp only [Act.put]); go_simp) ?_
                simp only [Act.put, List.setIfInBounds_toArray, List.set_cons_succ, List.set_cons_zero, List.getElem_toArray, List.getElem_cons_succ, List.getElem_cons_zero]
                refine mix5_take_g (v := .pointer (some ⟨pb, poff + k * 8, none⟩)) rfl (by kernel_rfl) rfl (fun _ _ _ h => nomatch h.1) trivial (Facts.bel HD22b.out) (fun Y _ _ => by (try simp only [Act.put]); go_simp) ?_
                simp only [Act.put, List.setIfInBounds_toArray, List.set_cons_succ, List.set_cons_zero, List.getElem_toArray, List.getElem_cons_succ, List.getElem_cons_zero]
                refine mix5_take_g (v := .agg #[.int .i64 y.kind, .string y.name, .int .i64 y.sort, .slice Ay y.kids.length cy]) rfl (by kernel_rfl) rfl (fun _ _ _ h => nomatch h.1) trivial (Facts.bel HD22b.out) (fun Y _ hY => by
                  have z0 := (hY.cell (p := ⟨pb, poff + k * 8, none⟩) hpb).trans h8b.c0
                  have z1 := (hY.cell (p := ⟨pb, poff + k * 8 + 1, none⟩) hpb).trans h8b.c1
                  have z2 := (hY.cell (p := ⟨pb, poff + k * 8 + 2, none⟩) hpb).trans h8b.c2
                  have z3 := (hY.cell (p := ⟨pb, poff + k * 8 + 3, none⟩) hpb).trans h8b.c3
                  (try simp only [Act.put]); go_simp) ?_
                simp only [Act.put, List.setIfInBounds_toArray, List.set_cons_succ, List.set_cons_zero, List.getElem_toArray, List.getElem_cons_succ, List.getElem_cons_zero]
                refine mix4_op_g rfl (by kernel_rfl) (fun K hK => ?_)
                have C23 := rsame_any x y Ax Ay cx cy D21 (by omega) (by omega) (RepT.go h8a.r1 (Facts.bel HD22b.out) (Facts.bel HD22b.out).size) (RepT.go h8b.r1 (Facts.bel HD22b.out) (Facts.bel HD22b.out).size)
                rw [same_decM, ← HS1.out] at C23
                simp only [Tm.val] at C23
                have C23 := Lib.hid C23
                go_wp2_with fail
                refine C23.out.mono ?_; clear C23
                rintro e w24 ⟨rfl, hb25⟩
                have HF26 := Lib.hid (Facts.below hb25.below HD22b.out)
                refine hK _ _ ⟨⟨fun _ => trivial, Facts.bel HF26.out⟩, ?_⟩
                clear hK K
                clear HD22b
                clear hb25
                refine mix5_take_g (v := .bool true) rfl (by kernel_rfl) rfl (fun _ _ _ h => nomatch h.1) trivial (Facts.bel HF26.out) (fun Y _ _ => by (try simp only [Act.put]); go_simp) ?_
                simp only [Act.put, List.setIfInBounds_toArray, List.set_cons_succ, List.set_cons_zero, List.getElem_toArray, List.getElem_cons_succ, List.getElem_cons_zero]
                refine mix5_take_g (v := .slice (some ⟨pb, poff, none⟩) q1.length c2) rfl (by kernel_rfl) rfl (fun _ _ _ h => nomatch h.1) trivial (Facts.bel HF26.out) (fun Y _ _ => by (try simp only [Act.put]); go_simp) ?_
                simp only [Act.put, List.setIfInBounds_toArray, List.set_cons_succ, List.set_cons_zero, List.getElem_toArray, List.getElem_cons_succ, List.getElem_cons_zero]
                refine mix5_take_g (v := .int .i64 i) rfl (by kernel_rfl) rfl (fun _ _ _ h => nomatch h.1) trivial (Facts.bel HF26.out) (fun Y _ _ => by (try simp only [Act.put]); go_simp) ?_
                simp only [Act.put, List.setIfInBounds_toArray, List.set_cons_succ, List.set_cons_zero, List.getElem_toArray, List.getElem_cons_succ, List.getElem_cons_zero]
                refine mix5_take_g (v := .pointer (some ⟨pb, poff + i * 8, none⟩)) rfl (by kernel_rfl) rfl (fun _ _ _ h => nomatch h.1) trivial (Facts.bel HF26.out) (fun Y _ _ => by (try simp only [Act.put]); go_simp) ?_
                simp only [Act.put, List.setIfInBounds_toArray, List.set_cons_succ, List.set_cons_zero, List.getElem_toArray, List.getElem_cons_succ, List.getElem_cons_zero]
                refine mix5_take_g (v := .pointer (some ⟨pb, poff + i * 8 + 4, none⟩)) rfl (by kernel_rfl) rfl (fun _ _ _ h => nomatch h.1) trivial (Facts.bel HF26.out) (fun Y _ _ => by (try simp only [Act.put]); go_simp) ?_
                simp only [Act.put, List.setIfInBounds_toArray, List.set_cons_succ, List.set_cons_zero, List.getElem_toArray, List.getElem_cons_succ, List.getElem_cons_zero]
                refine mix5_take_g (v := .agg #[.int .i64 u.kind, .string u.name, .int .i64 u.sort, .slice Au u.kids.length cu]) rfl (by kernel_rfl) rfl (fun _ _ _ h => nomatch h.1) trivial (Facts.bel HF26.out) (fun Y _ hY => by
                  have z0 := (hY.cell (p := ⟨pb, poff + i * 8 + 4, none⟩) hpb).trans h8a.c4
                  have z1 := (hY.cell (p := ⟨pb, poff + i * 8 + 5, none⟩) hpb).trans h8a.c5
                  have z2 := (hY.cell (p := ⟨pb, poff + i * 8 + 6, none⟩) hpb).trans h8a.c6
                  have z3 := (hY.cell (p := ⟨pb, poff + i * 8 + 7, none⟩) hpb).trans h8a.c7
                  (try simp only [Act.put]); go_simp) ?_
                simp only [Act.put, List.setIfInBounds_toArray, List.set_cons_succ, List.set_cons_zero, List.getElem_toArray, List.getElem_cons_succ, List.getElem_cons_zero]
                refine mix5_take_g (v := .slice (some ⟨pb, poff, none⟩) q1.length c2) rfl (by kernel_rfl) rfl (fun _ _ _ h => nomatch h.1) trivial (Facts.bel HF26.out) (fun Y _ _ => by (try simp only [Act.put]); go_simp) ?_
                simp only [Act.put, List.setIfInBounds_toArray, List.set_cons_succ, List.set_cons_zero, List.getElem_toArray, List.getElem_cons_succ, List.getElem_cons_zero]
                refine mix5_take_g (v := .int .i64 k) rfl (by kernel_rfl) rfl (fun _ _ _ h => nomatch h.1) trivial (Facts.bel HF26.out) (fun Y _ _ => by (try simp only [Act.put]); go_simp) ?_
                simp only [Act.put, List.setIfInBounds_toArray, List.set_cons_succ, List.set_cons_zero, List.getElem_toArray, List.getElem_cons_succ, List.getElem_cons_zero]
                refine mix5_take_g (v := .pointer (some ⟨pb, poff + k * 8, none⟩)) rfl (by kernel_rfl) rfl (fun _ _ _ h => nomatch h.1) trivial (Facts.bel HF26.out) (fun Y _ _ => by (try simp only [Act.put]); go_simp) ?_
                simp only [Act.put, List.setIfInBounds_toArray, List.set_cons_succ, List.set_cons_zero, List.getElem_toArray, List.getElem_cons_succ, List.getElem_cons_zero]
                refine mix5_take_g (v := .pointer (some ⟨pb, poff + k * 8 + 4, none⟩)) rfl (by kernel_rfl) rfl (fun _ _ _ h => nomatch h.1) trivial (Facts.bel HF26.out) (fun Y _ _ => by (try simp only [Act.put]); go_simp) ?_
                simp only [Act.put, List.setIfInBounds_toArray, List.set_cons_succ, List.set_cons_zero, List.getElem_toArray, List.getElem_cons_succ, List.getElem_cons_zero]
                refine mix5_take_g (v := .agg #[.int .i64 v.kind, .string v.name, .int .i64 v.sort, .slice Av v.kids.length cv]) rfl (by kernel_rfl) rfl (fun _ _ _ h => nomatch h.1) trivial (Facts.bel HF26.out) (fun Y _ hY => by
                  have z0 := (hY.cell (p := ⟨pb, poff + k * 8 + 4, none⟩) hpb).trans h8b.c4
                  have z1 := (hY.cell (p := ⟨pb, poff + k * 8 + 5, none⟩) hpb).trans h8b.c5
                  have z2 := (hY.cell (p := ⟨pb, poff + k * 8 + 6, none⟩) hpb).trans h8b.c6
                  have z3 := (hY.cell (p := ⟨pb, poff + k * 8 + 7, none⟩) hpb).trans h8b.c7
                  (try simp only [Act.put]); go_simp) ?_
                simp only [Act.put, List.setIfInBounds_toArray, List.set_cons_succ, List.set_cons_zero, List.getElem_toArray, List.getElem_cons_succ, List.getElem_cons_zero]
                refine mix4_op_g rfl (by kernel_rfl) (fun K hK => ?_)
                have C27 := rsame_any u v Au Av cu cv w24 (by omega) (by omega) (RepT.go h8a.r2 (Facts.bel HF26.out) (Facts.bel HF26.out).size) (RepT.go h8b.r2 (Facts.bel HF26.out) (Facts.bel HF26.out).size)
                rw [same_decM, ← HS2.out] at C27
                simp only [Tm.val] at C27
                have C27 := Lib.hid C27
                go_wp2_with fail
                refine C27.out.mono ?_; clear C27
                rintro e w28 ⟨rfl, hb29⟩
                have HF30 := Lib.hid (Facts.below hb29.below HF26.out)
                refine hK _ _ ⟨⟨fun _ => trivial, Facts.bel HF30.out⟩, ?_⟩
                clear hK K
                clear HF26
                clear hb29
                refine mix5_take_g (v := .bool true) rfl (by kernel_rfl) rfl (fun _ _ _ h => nomatch h.1) trivial (Facts.bel HF30.out) (fun Y _ _ => by (try simp only [Act.put]); go_simp) ?_
                simp only [Act.put, List.setIfInBounds_toArray, List.set_cons_succ, List.set_cons_zero, List.getElem_toArray, List.getElem_cons_succ, List.getElem_cons_zero]
                refine mix5_take_g (v := .bool true) rfl (by kernel_rfl) rfl (fun _ _ _ h => nomatch h.1) trivial (Facts.bel HF30.out) (fun Y _ _ => by (try simp only [Act.put]); go_simp) ?_
                simp only [Act.put, List.setIfInBounds_toArray, List.set_cons_succ, List.set_cons_zero, List.getElem_toArray, List.getElem_cons_succ, List.getElem_cons_zero]
                refine mix4_nil ?_
                exact ⟨rfl, by kernel_rfl, (show Facts D21 [.binds q1 (some ⟨pb, poff, none⟩) c2, .box b0 p P cp] w28 from ⟨HF30.out.1, HF30.out.2.1, Facts.bel HF30.out⟩).unbase (Facts.bel HD22.out)⟩
              rintro a' w31 ⟨rfl, hF⟩
              have HF32 := Lib.hid hF
              clear hF
              simp only [Act.put, List.setIfInBounds_toArray, List.set_cons_succ, List.set_cons_zero, List.getElem_toArray, List.getElem_cons_succ, List.getElem_cons_zero]
              clear h8a h8b hlr
              go_wp2_with fail
              go_ret2
              exact matched_err (Facts.bel HF32.out)
        · obtain rfl : k = i := by omega
          have HN := Lib.hid (okTo_next HOK.out)
          go_wp2_with fail
          go_roundw
          case rel => exact ⟨k + 1, by go_num, by omega, HN.out, HF.out⟩
          case measure => simp [intOf]; omega
    · obtain rfl : i = q1.length := by omega
      have HR4 := Lib.hid (HR3.out.trans (if_pos (okTo_cons HOK.out))); clear HR3 HOK
      have VS := rvars_any p P cp wr wr.heap.size (Nat.le_refl _) hp HF.out.2.1.2
      rw [show Tm.set (p.all.filter fun u => u.kind == 1) = L from HL.out.symm] at VS
      obtain ⟨a0, a1, a2, a3, -⟩ := BoxT.cells HF.out.2.1
      simp only [Tm.val] at VS
      have VS := Lib.hid VS
      go_wp2_with fail
      refine VS.out.mono ?_; clear VS a0 a1 a2 a3
      rintro e w4 ⟨A4, c4, n4, its4, rfl, hn4, hrow4, hb4, his4⟩
      subst hn4
      obtain ⟨A4', c4', hv4, hS4⟩ := hrow4.toS (P := fun b => b < w4.heap.size) (fun b h _ => Nat.lt_of_lt_of_le h hb4.size) (fun b _ h => h)
      injection hv4 with g1 g2 g3
      clear g2
      subst g1 g3
      rw [his4] at hS4
      have HF4 := Lib.hid (Facts.below hb4 HF.out)
      have HW4 : Hid (Below w.heap.size w w4) := Facts.bel HF4.out
      have hq4 : RepB w4 (fun b => b < w4.heap.size) q1 A2 c2 := HF4.out.1
      obtain ⟨base, hbase⟩ : ∃ b, b = w4.heap.size := ⟨_, rfl⟩
      rw [← hbase] at hS4 hq4
      have HBS : Hid (w.heap.size ≤ base) := by rw [hbase]; exact HW4.out.size
      have HBE : Hid (base = w4.heap.size) := hbase
      have HB4 : Hid (Below base w4 w4) := Below.refl _ _
      have HQ4 := Lib.hid hq4
      have HS4 := Lib.hid hS4
      have hb4s : base ≤ w4.heap.size := by omega
      clear hq4 hS4 hrow4 hb4 his4 HF HF4 hbase
      go_wp2_with fail
      go_loopw [11, 13] (fun v iv wr => ∃ (i c0 : Nat) (A0 : Option Addr) (its : List IB), i ≤ L.length ∧ iv = .int .i64 i ∧ v = .slice A0 its.length c0 ∧ base ≤ wr.heap.size ∧ Hid (its.map IB.bd = bindM q1 (L.take i)) ∧ Hid (Below base w4 wr) ∧ Hid (RowG 48 wr base (fun b => b < base) (.slice A0 its.length c0) its)) (fun _ iv _ => L.length - (intOf iv).toNat)
      case atStart => exact ⟨0, 0, none, [], Nat.zero_le _, rfl, rfl, hb4s, rfl, HB4.out, RowG.nil _ _ _ _⟩
      case round =>
        clear HB4 hb4s
        obtain ⟨i, c0, A0, its, hi, rfl, rfl, hbs, HIT, HB, HROW⟩ := hrel
        have i1 : (0 : Int) ≤ (i : Int) := Int.natCast_nonneg _
        by_cases hlt : i < L.length
        · have i2 : (i : Int) < (L.length : Int) := by omega
          rcases HS4.out.2.2 with h | ⟨lb, loff, hA4, hlb, hLP⟩
          · rw [h] at hlt; simp at hlt
          subst hA4
          obtain ⟨Ax, cx, x0, x1, x2, x3, hrx⟩ := hLP.get i hlt
          obtain ⟨hxq, hxs⟩ := HLQ.out L[i] (List.getElem_mem hlt)
          have hnx := bindM_succ q1 L i hlt
          rw [← HIT.out] at hnx
          obtain ⟨x, hx⟩ : ∃ x, x = L[i] := ⟨_, rfl⟩
          rw [← hx] at x0 x1 x2 x3 hrx hxq hxs hnx
          clear hx hLP HIT
          have HNX := Lib.hid hnx
          have HXQ := Lib.hid hxq
          have HRX := Lib.hid hrx
          have HX : Hid (w4.cell? ⟨lb, loff + i * 4, none⟩ = some (.int .i64 x.kind) ∧ w4.cell? ⟨lb, loff + i * 4 + 1, none⟩ = some (.string x.name) ∧ w4.cell? ⟨lb, loff + i * 4 + 2, none⟩ = some (.int .i64 x.sort) ∧ w4.cell? ⟨lb, loff + i * 4 + 3, none⟩ = some (.slice Ax x.kids.length cx)) := ⟨x0, x1, x2, x3⟩
          clear hnx hxq hrx x0 x1 x2 x3
          generalize wr = wo at *
          go_wp2_with fail
          go_loopw [11, 14] (fun v kv wr => ∃ k : Nat, kv = .int .i64 k ∧ v = .slice A0 its.length c0 ∧ k ≤ q1.length ∧ base ≤ wr.heap.size ∧ Hid (LookM q1 x k) ∧ Hid (Below base w4 wr) ∧ Hid (RowG 48 wr base (fun b => b < base) (.slice A0 its.length c0) its)) (fun _ kv _ => q1.length - (intOf kv).toNat)
          case atStart => exact ⟨0, rfl, rfl, Nat.zero_le _, hbs, lookM_zero _ _, HB.out, HROW.out⟩
          case round =>
            clear HB HROW hbs
            obtain ⟨k, rfl, rfl, hk, hbs, HLK, HB, HROW⟩ := hrel
            have j1 : (0 : Int) ≤ (k : Int) := Int.natCast_nonneg _
            by_cases hkl : k < q1.length
            · have j2 : (k : Int) < (q1.length : Int) := by omega
              rcases HQ4.out.2.2 with h | ⟨pb, poff, hA2, hpb, hqP⟩
              · rw [h] at hkl; simp at hkl
              subst hA2
              obtain ⟨Ay, cy, Au, cu, h8⟩ := hqP.get8 k hkl
              obtain ⟨sy, su⟩ := HQS.out q1[k] (List.getElem_mem hkl)
              have HLN : Hid (q1[k].1 ≠ x → LookM q1 x (k + 1)) := fun h => lookM_step HLK.out hkl h
              have HLF : Hid (q1[k].1 = x → getS q1 x = q1[k].2) := fun h => lookM_hit HLK.out hkl h
              generalize q1[k] = ey at *
              obtain ⟨y, u⟩ := ey
              dsimp only at sy su HLN HLF
              have H8 := Lib.hid h8
              have hbD : base ≤ wr.drew.heap.size := hbs
              have HBD : Hid (Below base w4 wr.drew) := HB.out.drew
              obtain ⟨s1, hs1⟩ : ∃ s1, s1 = decide (y = x) := ⟨_, rfl⟩
              have HS1 := Lib.hid hs1
              have hxs6 : x.size ≤ 1000000 := by omega
              clear hs1 hqP h8 HLK
              cases s1 with
              | false =>
                have HN := Lib.hid (HLN.out (of_decide_eq_false HS1.out.symm))
                go_wp2_with fail
                have HF0 := Lib.hid (show Facts wr [] wr from Below.refl _ _)
                refine region_cutU (fun a0 a' w' => a' = ((((((((((a0.put (some 79) (.slice (some ⟨pb, poff, none⟩) q1.length c2)).put (some 80) (.int .i64 k)).put (some 81) (.pointer (some ⟨pb, poff + k * 8, none⟩))).put (some 82) (.pointer (some ⟨pb, poff + k * 8, none⟩))).put (some 83) (.agg #[.int .i64 y.kind, .string y.name, .int .i64 y.sort, .slice Ay y.kids.length cy])).put (some 84) (.slice (some ⟨lb, loff, none⟩) L.length c4)).put (some 85) (.int .i64 i)).put (some 86) (.pointer (some ⟨lb, loff + i * 4, none⟩))).put (some 87) (.agg #[.int .i64 x.kind, .string x.name, .int .i64 x.sort, .slice Ax x.kids.length cx])).put (some 88) (.bool false)) ∧ Facts wr [] w') ?_ ?_
                · skip
                  refine wp_region_mix4 (fun _ => True) (fun Y => Below wr.drew.heap.size wr.drew Y) [] (.held 0 (.held 1 (.held 2 (.held 3 (.held 4 (.held 5 (.held 6 (.held 7 (.held 8 (.op 9 .nil)))))))))) mixed (by kernel_rfl) ?_
                  have HD34 := Lib.hid (Facts.below (V' := wr.drew) (Below.refl _ _).drew HF0.out)
                  have HD34b := Lib.hid HD34.out.rebase
                  generalize wr.drew = D33 at *
                  refine mix4_take (v := .slice (some ⟨pb, poff, none⟩) q1.length c2) rfl rfl rfl (fun _ _ _ h => nomatch h.1) trivial (Facts.bel HD34b.out) (fun Y _ _ => by (try simp only [Act.put]); go_simp) ?_
                  refine mix4_take (v := .int .i64 k) rfl rfl rfl (fun _ _ _ h => nomatch h.1) trivial (Facts.bel HD34b.out) (fun Y _ _ => by (try simp only [Act.put]); go_simp) ?_
                  refine mix4_take (v := .pointer (some ⟨pb, poff + k * 8, none⟩)) rfl rfl rfl (fun _ _ _ h => nomatch h.1) trivial (Facts.bel HD34b.out) (fun Y _ _ => by (try simp only [Act.put]); go_simp) ?_
                  refine mix4_take (v := .pointer (some ⟨pb, poff + k * 8, none⟩)) rfl rfl rfl (fun _ _ _ h => nomatch h.1) trivial (Facts.bel HD34b.out) (fun Y _ _ => by (try simp only [Act.put]); go_simp) ?_
                  simp only [Act.put, List.setIfInBounds_toArray, List.set_cons_succ, List.set_cons_zero, List.getElem_toArray, List.getElem_cons_succ, List.getElem_cons_zero]
                  refine mix4_take (v := .agg #[.int .i64 y.kind, .string y.name, .int .i64 y.sort, .slice Ay y.kids.length cy]) rfl rfl rfl (fun _ _ _ h => nomatch h.1) trivial (Facts.bel HD34b.out) (fun Y _ hY => by
                    have z0 := ((hY.cell (p := ⟨pb, poff + k * 8, none⟩) (Nat.lt_of_lt_of_le hpb hbD)).trans (HBD.out.cell (p := ⟨pb, poff + k * 8, none⟩) hpb)).trans H8.out.c0
                    have z1 := ((hY.cell (p := ⟨pb, poff + k * 8 + 1, none⟩) (Nat.lt_of_lt_of_le hpb hbD)).trans (HBD.out.cell (p := ⟨pb, poff + k * 8 + 1, none⟩) hpb)).trans H8.out.c1
                    have z2 := ((hY.cell (p := ⟨pb, poff + k * 8 + 2, none⟩) (Nat.lt_of_lt_of_le hpb hbD)).trans (HBD.out.cell (p := ⟨pb, poff + k * 8 + 2, none⟩) hpb)).trans H8.out.c2
                    have z3 := ((hY.cell (p := ⟨pb, poff + k * 8 + 3, none⟩) (Nat.lt_of_lt_of_le hpb hbD)).trans (HBD.out.cell (p := ⟨pb, poff + k * 8 + 3, none⟩) hpb)).trans H8.out.c3
                    (try simp only [Act.put]); go_simp) ?_
                  refine mix4_take (v := .slice (some ⟨lb, loff, none⟩) L.length c4) rfl rfl rfl (fun _ _ _ h => nomatch h.1) trivial (Facts.bel HD34b.out) (fun Y _ _ => by (try simp only [Act.put]); go_simp) ?_
                  refine mix4_take (v := .int .i64 i) rfl rfl rfl (fun _ _ _ h => nomatch h.1) trivial (Facts.bel HD34b.out) (fun Y _ _ => by (try simp only [Act.put]); go_simp) ?_
                  refine mix4_take (v := .pointer (some ⟨lb, loff + i * 4, none⟩)) rfl rfl rfl (fun _ _ _ h => nomatch h.1) trivial (Facts.bel HD34b.out) (fun Y _ _ => by (try simp only [Act.put]); go_simp) ?_
                  simp only [Act.put, List.setIfInBounds_toArray, List.set_cons_succ, List.set_cons_zero, List.getElem_toArray, List.getElem_cons_succ, List.getElem_cons_zero]
                  refine mix4_take (v := .agg #[.int .i64 x.kind, .string x.name, .int .i64 x.sort, .slice Ax x.kids.length cx]) rfl rfl rfl (fun _ _ _ h => nomatch h.1) trivial (Facts.bel HD34b.out) (fun Y _ hY => by
                    have z0 := ((hY.cell (p := ⟨lb, loff + i * 4, none⟩) (Nat.lt_of_lt_of_le hlb hbD)).trans (HBD.out.cell (p := ⟨lb, loff + i * 4, none⟩) hlb)).trans HX.out.1
                    have z1 := ((hY.cell (p := ⟨lb, loff + i * 4 + 1, none⟩) (Nat.lt_of_lt_of_le hlb hbD)).trans (HBD.out.cell (p := ⟨lb, loff + i * 4 + 1, none⟩) hlb)).trans HX.out.2.1
                    have z2 := ((hY.cell (p := ⟨lb, loff + i * 4 + 2, none⟩) (Nat.lt_of_lt_of_le hlb hbD)).trans (HBD.out.cell (p := ⟨lb, loff + i * 4 + 2, none⟩) hlb)).trans HX.out.2.2.1
                    have z3 := ((hY.cell (p := ⟨lb, loff + i * 4 + 3, none⟩) (Nat.lt_of_lt_of_le hlb hbD)).trans (HBD.out.cell (p := ⟨lb, loff + i * 4 + 3, none⟩) hlb)).trans HX.out.2.2.2
                    (try simp only [Act.put]); go_simp) ?_
                  simp only [Act.put, List.setIfInBounds_toArray, List.set_cons_succ, List.set_cons_zero, List.getElem_toArray, List.getElem_cons_succ, List.getElem_cons_zero]
                  refine mix4_op rfl rfl (fun K hK => ?_)
                  have C35 := rsame_any y x Ay Ax cy cx D33 (by omega) hxs6 (RepP.mono (fun b (hb : b < base) => by show b < _; have := (Facts.bel HD34b.out).size; omega) (fun p hp => ((Facts.bel HD34b.out).cell (Nat.lt_of_lt_of_le hp hbD)).trans (HBD.out.cell hp)) _ _ _ H8.out.r1) (RepP.mono (fun b (hb : b < base) => by show b < _; have := (Facts.bel HD34b.out).size; omega) (fun p hp => ((Facts.bel HD34b.out).cell (Nat.lt_of_lt_of_le hp hbD)).trans (HBD.out.cell hp)) _ _ _ HRX.out)
                  rw [same_decM, ← HS1.out] at C35
                  simp only [Tm.val] at C35
                  have C35 := Lib.hid C35
                  go_wp2_with fail
                  refine C35.out.mono ?_; clear C35
                  rintro e w36 ⟨rfl, hb37⟩
                  have HF38 := Lib.hid (Facts.below hb37.below HD34b.out)
                  refine hK _ _ ⟨⟨fun _ => trivial, Facts.bel HF38.out⟩, ?_⟩
                  clear hK K
                  clear HD34b
                  clear hb37
                  refine mix4_nil ?_
                  exact ⟨rfl, by kernel_rfl, (show Facts D33 [] w36 from Facts.bel HF38.out).unbase (Facts.bel HD34.out)⟩
                rintro a' w39 ⟨rfl, hF⟩
                have HF40 := Lib.hid hF
                clear hF
                simp only [Act.put, List.setIfInBounds_toArray, List.set_cons_succ, List.set_cons_zero, List.getElem_toArray, List.getElem_cons_succ, List.getElem_cons_zero]
                have HF1 := HF40
                clear HF40
                have hbs : base ≤ w39.heap.size := by have := (Facts.bel HF1.out).size; omega
                have HB := Lib.hid (HB.out.trans ((Facts.bel HF1.out).mono (by omega)))
                have HROW := Lib.hid (HROW.out.below (Facts.bel HF1.out))
                clear HF1
                go_wp2_with fail
                go_roundw
                case rel => exact ⟨k + 1, by go_num, rfl, by omega, hbs, HN.out, HB.out, HROW.out⟩
                case measure => simp [intOf]; omega
              | true =>
                have HG := Lib.hid (HLF.out (of_decide_eq_true HS1.out.symm))
                go_wp2_with fail
                have HF0 := Lib.hid (show Facts wr [] wr from Below.refl _ _)
                refine region_cutU (fun a0 a' w' => a' = ((((((((((a0.put (some 79) (.slice (some ⟨pb, poff, none⟩) q1.length c2)).put (some 80) (.int .i64 k)).put (some 81) (.pointer (some ⟨pb, poff + k * 8, none⟩))).put (some 82) (.pointer (some ⟨pb, poff + k * 8, none⟩))).put (some 83) (.agg #[.int .i64 y.kind, .string y.name, .int .i64 y.sort, .slice Ay y.kids.length cy])).put (some 84) (.slice (some ⟨lb, loff, none⟩) L.length c4)).put (some 85) (.int .i64 i)).put (some 86) (.pointer (some ⟨lb, loff + i * 4, none⟩))).put (some 87) (.agg #[.int .i64 x.kind, .string x.name, .int .i64 x.sort, .slice Ax x.kids.length cx])).put (some 88) (.bool true)) ∧ Facts wr [] w') ?_ ?_
                · skip
                  refine wp_region_mix4 (fun _ => True) (fun Y => Below wr.drew.heap.size wr.drew Y) [] (.held 0 (.held 1 (.held 2 (.held 3 (.held 4 (.held 5 (.held 6 (.held 7 (.held 8 (.op 9 .nil)))))))))) mixed (by kernel_rfl) ?_
                  have HD42 := Lib.hid (Facts.below (V' := wr.drew) (Below.refl _ _).drew HF0.out)
                  have HD42b := Lib.hid HD42.out.rebase
                  generalize wr.drew = D41 at *
                  refine mix4_take (v := .slice (some ⟨pb, poff, none⟩) q1.length c2) rfl rfl rfl (fun _ _ _ h => nomatch h.1) trivial (Facts.bel HD42b.out) (fun Y _ _ => by (try simp only [Act.put]); go_simp) ?_
                  refine mix4_take (v := .int .i64 k) rfl rfl rfl (fun _ _ _ h => nomatch h.1) trivial (Facts.bel HD42b.out) (fun Y _ _ => by (try simp only [Act.put]); go_simp) ?_
                  refine mix4_take (v := .pointer (some ⟨pb, poff + k * 8, none⟩)) rfl rfl rfl (fun _ _ _ h => nomatch h.1) trivial (Facts.bel HD42b.out) (fun Y _ _ => by (try simp only [Act.put]); go_simp) ?_
                  refine mix4_take (v := .pointer (some ⟨pb, poff + k * 8, none⟩)) rfl rfl rfl (fun _ _ _ h => nomatch h.1) trivial (Facts.bel HD42b.out) (fun Y _ _ => by (try simp only [Act.put]); go_simp) ?_
                  simp only [Act.put, List.setIfInBounds_toArray, List.set_cons_succ, List.set_cons_zero, List.getElem_toArray, List.getElem_cons_succ, List.getElem_cons_zero]
                  refine mix4_take (v := .agg #[.int .i64 y.kind, .string y.name, .int .i64 y.sort, .slice Ay y.kids.length cy]) rfl rfl rfl (fun _ _ _ h => nomatch h.1) trivial (Facts.bel HD42b.out) (fun Y _ hY => by
                    have z0 := ((hY.cell (p := ⟨pb, poff + k * 8, none⟩) (Nat.lt_of_lt_of_le hpb hbD)).trans (HBD.out.cell (p := ⟨pb, poff + k * 8, none⟩) hpb)).trans H8.out.c0
                    have z1 := ((hY.cell (p := ⟨pb, poff + k * 8 + 1, none⟩) (Nat.lt_of_lt_of_le hpb hbD)).trans (HBD.out.cell (p := ⟨pb, poff + k * 8 + 1, none⟩) hpb)).trans H8.out.c1
                    have z2 := ((hY.cell (p := ⟨pb, poff + k * 8 + 2, none⟩) (Nat.lt_of_lt_of_le hpb hbD)).trans (HBD.out.cell (p := ⟨pb, poff + k * 8 + 2, none⟩) hpb)).trans H8.out.c2
                    have z3 := ((hY.cell (p := ⟨pb, poff + k * 8 + 3, none⟩) (Nat.lt_of_lt_of_le hpb hbD)).trans (HBD.out.cell (p := ⟨pb, poff + k * 8 + 3, none⟩) hpb)).trans H8.out.c3
                    (try simp only [Act.put]); go_simp) ?_
                  refine mix4_take (v := .slice (some ⟨lb, loff, none⟩) L.length c4) rfl rfl rfl (fun _ _ _ h => nomatch h.1) trivial (Facts.bel HD42b.out) (fun Y _ _ => by (try simp only [Act.put]); go_simp) ?_
                  refine mix4_take (v := .int .i64 i) rfl rfl rfl (fun _ _ _ h => nomatch h.1) trivial (Facts.bel HD42b.out) (fun Y _ _ => by (try simp only [Act.put]); go_simp) ?_
                  refine mix4_take (v := .pointer (some ⟨lb, loff + i * 4, none⟩)) rfl rfl rfl (fun _ _ _ h => nomatch h.1) trivial (Facts.bel HD42b.out) (fun Y _ _ => by (try simp only [Act.put]); go_simp) ?_
                  simp only [Act.put, List.setIfInBounds_toArray, List.set_cons_succ, List.set_cons_zero, List.getElem_toArray, List.getElem_cons_succ, List.getElem_cons_zero]
                  refine mix4_take (v := .agg #[.int .i64 x.kind, .string x.name, .int .i64 x.sort, .slice Ax x.kids.length cx]) rfl rfl rfl (fun _ _ _ h => nomatch h.1) trivial (Facts.bel HD42b.out) (fun Y _ hY => by
                    have z0 := ((hY.cell (p := ⟨lb, loff + i * 4, none⟩) (Nat.lt_of_lt_of_le hlb hbD)).trans (HBD.out.cell (p := ⟨lb, loff + i * 4, none⟩) hlb)).trans HX.out.1
                    have z1 := ((hY.cell (p := ⟨lb, loff + i * 4 + 1, none⟩) (Nat.lt_of_lt_of_le hlb hbD)).trans (HBD.out.cell (p := ⟨lb, loff + i * 4 + 1, none⟩) hlb)).trans HX.out.2.1
                    have z2 := ((hY.cell (p := ⟨lb, loff + i * 4 + 2, none⟩) (Nat.lt_of_lt_of_le hlb hbD)).trans (HBD.out.cell (p := ⟨lb, loff + i * 4 + 2, none⟩) hlb)).trans HX.out.2.2.1
                    have z3 := ((hY.cell (p := ⟨lb, loff + i * 4 + 3, none⟩) (Nat.lt_of_lt_of_le hlb hbD)).trans (HBD.out.cell (p := ⟨lb, loff + i * 4 + 3, none⟩) hlb)).trans HX.out.2.2.2
                    (try simp only [Act.put]); go_simp) ?_
                  simp only [Act.put, List.setIfInBounds_toArray, List.set_cons_succ, List.set_cons_zero, List.getElem_toArray, List.getElem_cons_succ, List.getElem_cons_zero]
                  refine mix4_op rfl rfl (fun K hK => ?_)
                  have C43 := rsame_any y x Ay Ax cy cx D41 (by omega) hxs6 (RepP.mono (fun b (hb : b < base) => by show b < _; have := (Facts.bel HD42b.out).size; omega) (fun p hp => ((Facts.bel HD42b.out).cell (Nat.lt_of_lt_of_le hp hbD)).trans (HBD.out.cell hp)) _ _ _ H8.out.r1) (RepP.mono (fun b (hb : b < base) => by show b < _; have := (Facts.bel HD42b.out).size; omega) (fun p hp => ((Facts.bel HD42b.out).cell (Nat.lt_of_lt_of_le hp hbD)).trans (HBD.out.cell hp)) _ _ _ HRX.out)
                  rw [same_decM, ← HS1.out] at C43
                  simp only [Tm.val] at C43
                  have C43 := Lib.hid C43
                  go_wp2_with fail
                  refine C43.out.mono ?_; clear C43
                  rintro e w44 ⟨rfl, hb45⟩
                  have HF46 := Lib.hid (Facts.below hb45.below HD42b.out)
                  refine hK _ _ ⟨⟨fun _ => trivial, Facts.bel HF46.out⟩, ?_⟩
                  clear hK K
                  clear HD42b
                  clear hb45
                  refine mix4_nil ?_
                  exact ⟨rfl, by kernel_rfl, (show Facts D41 [] w44 from Facts.bel HF46.out).unbase (Facts.bel HD42.out)⟩
                rintro a' w47 ⟨rfl, hF⟩
                have HF48 := Lib.hid hF
                clear hF
                simp only [Act.put, List.setIfInBounds_toArray, List.set_cons_succ, List.set_cons_zero, List.getElem_toArray, List.getElem_cons_succ, List.getElem_cons_zero]
                have HF1 := HF48
                clear HF48
                have hbs : base ≤ w47.heap.size := by have := (Facts.bel HF1.out).size; omega
                have HB := Lib.hid (HB.out.trans ((Facts.bel HF1.out).mono (by omega)))
                have HROW := Lib.hid (HROW.out.below (Facts.bel HF1.out))
                clear HF1
                have hbD : base ≤ w47.drew.heap.size := hbs
                have HBD : Hid (Below base w4 w47.drew) := HB.out.drew
                obtain ⟨s2, hs2⟩ : ∃ s2, s2 = decide (u = x) := ⟨_, rfl⟩
                have HS2 := Lib.hid hs2
                clear hs2
                cases s2 with
                | true =>
                  have HN := Lib.hid (HNX.out.trans (by rw [HG.out, if_pos (of_decide_eq_true HS2.out.symm), List.append_nil]))
                  go_wp2_with fail
                  have HF0 := Lib.hid (show Facts w47 [] w47 from Below.refl _ _)
                  refine region_cutU (fun a0 a' w' => a' = (((((((((((a0.put (some 89) (.slice (some ⟨pb, poff, none⟩) q1.length c2)).put (some 90) (.int .i64 k)).put (some 91) (.pointer (some ⟨pb, poff + k * 8, none⟩))).put (some 92) (.pointer (some ⟨pb, poff + k * 8 + 4, none⟩))).put (some 93) (.agg #[.int .i64 u.kind, .string u.name, .int .i64 u.sort, .slice Au u.kids.length cu])).put (some 94) (.slice (some ⟨lb, loff, none⟩) L.length c4)).put (some 95) (.int .i64 i)).put (some 96) (.pointer (some ⟨lb, loff + i * 4, none⟩))).put (some 97) (.agg #[.int .i64 x.kind, .string x.name, .int .i64 x.sort, .slice Ax x.kids.length cx])).put (some 98) (.bool true)).put (some 99) (.bool false)) ∧ Facts w47 [] w') ?_ ?_
                  · skip
                    refine wp_region_mix4 (fun _ => True) (fun Y => Below w47.drew.heap.size w47.drew Y) [] (.held 0 (.held 1 (.held 2 (.held 3 (.held 4 (.held 5 (.held 6 (.held 7 (.held 8 (.op 9 (.held 10 .nil))))))))))) mixed (by kernel_rfl) ?_
                    have HD50 := Lib.hid (Facts.below (V' := w47.drew) (Below.refl _ _).drew HF0.out)
                    have HD50b := Lib.hid HD50.out.rebase
                    generalize w47.drew = D49 at *
                    refine mix4_take (v := .slice (some ⟨pb, poff, none⟩) q1.length c2) rfl rfl rfl (fun _ _ _ h => nomatch h.1) trivial (Facts.bel HD50b.out) (fun Y _ _ => by (try simp only [Act.put]); go_simp) ?_
                    refine mix4_take (v := .int .i64 k) rfl rfl rfl (fun _ _ _ h => nomatch h.1) trivial (Facts.bel HD50b.out) (fun Y _ _ => by (try simp only [Act.put]); go_simp) ?_
                    refine mix4_take (v := .pointer (some ⟨pb, poff + k * 8, none⟩)) rfl rfl rfl (fun _ _ _ h => nomatch h.1) trivial (Facts.bel HD50b.out) (fun Y _ _ => by (try simp only [Act.put]); go_simp) ?_
                    refine mix4_take (v := .pointer (some ⟨pb, poff + k * 8 + 4, none⟩)) rfl rfl rfl (fun _ _ _ h => nomatch h.1) trivial (Facts.bel HD50b.out) (fun Y _ _ => by (try simp only [Act.put]); go_simp) ?_
                    simp only [Act.put, List.setIfInBounds_toArray, List.set_cons_succ, List.set_cons_zero, List.getElem_toArray, List.getElem_cons_succ, List.getElem_cons_zero]
                    refine mix4_take (v := .agg #[.int .i64 u.kind, .string u.name, .int .i64 u.sort, .slice Au u.kids.length cu]) rfl rfl rfl (fun _ _ _ h => nomatch h.1) trivial (Facts.bel HD50b.out) (fun Y _ hY => by
                      have z0 := ((hY.cell (p := ⟨pb, poff + k * 8 + 4, none⟩) (Nat.lt_of_lt_of_le hpb hbD)).trans (HBD.out.cell (p := ⟨pb, poff + k * 8 + 4, none⟩) hpb)).trans H8.out.c4
                      have z1 := ((hY.cell (p := ⟨pb, poff + k * 8 + 4 + 1, none⟩) (Nat.lt_of_lt_of_le hpb hbD)).trans (HBD.out.cell (p := ⟨pb, poff + k * 8 + 4 + 1, none⟩) hpb)).trans H8.out.c5
                      have z2 := ((hY.cell (p := ⟨pb, poff + k * 8 + 4 + 2, none⟩) (Nat.lt_of_lt_of_le hpb hbD)).trans (HBD.out.cell (p := ⟨pb, poff + k * 8 + 4 + 2, none⟩) hpb)).trans H8.out.c6
                      have z3 := ((hY.cell (p := ⟨pb, poff + k * 8 + 4 + 3, none⟩) (Nat.lt_of_lt_of_le hpb hbD)).trans (HBD.out.cell (p := ⟨pb, poff + k * 8 + 4 + 3, none⟩) hpb)).trans H8.out.c7
                      (try simp only [Act.put]); go_simp) ?_
                    refine mix4_take (v := .slice (some ⟨lb, loff, none⟩) L.length c4) rfl rfl rfl (fun _ _ _ h => nomatch h.1) trivial (Facts.bel HD50b.out) (fun Y _ _ => by (try simp only [Act.put]); go_simp) ?_
                    refine mix4_take (v := .int .i64 i) rfl rfl rfl (fun _ _ _ h => nomatch h.1) trivial (Facts.bel HD50b.out) (fun Y _ _ => by (try simp only [Act.put]); go_simp) ?_
                    refine mix4_take (v := .pointer (some ⟨lb, loff + i * 4, none⟩)) rfl rfl rfl (fun _ _ _ h => nomatch h.1) trivial (Facts.bel HD50b.out) (fun Y _ _ => by (try simp only [Act.put]); go_simp) ?_
                    simp only [Act.put, List.setIfInBounds_toArray, List.set_cons_succ, List.set_cons_zero, List.getElem_toArray, List.getElem_cons_succ, List.getElem_cons_zero]
                    refine mix4_take (v := .agg #[.int .i64 x.kind, .string x.name, .int .i64 x.sort, .slice Ax x.kids.length cx]) rfl rfl rfl (fun _ _ _ h => nomatch h.1) trivial (Facts.bel HD50b.out) (fun Y _ hY => by
                      have z0 := ((hY.cell (p := ⟨lb, loff + i * 4, none⟩) (Nat.lt_of_lt_of_le hlb hbD)).trans (HBD.out.cell (p := ⟨lb, loff + i * 4, none⟩) hlb)).trans HX.out.1
                      have z1 := ((hY.cell (p := ⟨lb, loff + i * 4 + 1, none⟩) (Nat.lt_of_lt_of_le hlb hbD)).trans (HBD.out.cell (p := ⟨lb, loff + i * 4 + 1, none⟩) hlb)).trans HX.out.2.1
                      have z2 := ((hY.cell (p := ⟨lb, loff + i * 4 + 2, none⟩) (Nat.lt_of_lt_of_le hlb hbD)).trans (HBD.out.cell (p := ⟨lb, loff + i * 4 + 2, none⟩) hlb)).trans HX.out.2.2.1
                      have z3 := ((hY.cell (p := ⟨lb, loff + i * 4 + 3, none⟩) (Nat.lt_of_lt_of_le hlb hbD)).trans (HBD.out.cell (p := ⟨lb, loff + i * 4 + 3, none⟩) hlb)).trans HX.out.2.2.2
                      (try simp only [Act.put]); go_simp) ?_
                    simp only [Act.put, List.setIfInBounds_toArray, List.set_cons_succ, List.set_cons_zero, List.getElem_toArray, List.getElem_cons_succ, List.getElem_cons_zero]
                    refine mix4_op rfl rfl (fun K hK => ?_)
                    have C51 := rsame_any u x Au Ax cu cx D49 (by omega) hxs6 (RepP.mono (fun b (hb : b < base) => by show b < _; have := (Facts.bel HD50b.out).size; omega) (fun p hp => ((Facts.bel HD50b.out).cell (Nat.lt_of_lt_of_le hp hbD)).trans (HBD.out.cell hp)) _ _ _ H8.out.r2) (RepP.mono (fun b (hb : b < base) => by show b < _; have := (Facts.bel HD50b.out).size; omega) (fun p hp => ((Facts.bel HD50b.out).cell (Nat.lt_of_lt_of_le hp hbD)).trans (HBD.out.cell hp)) _ _ _ HRX.out)
                    rw [same_decM, ← HS2.out] at C51
                    simp only [Tm.val] at C51
                    have C51 := Lib.hid C51
                    go_wp2_with fail
                    refine C51.out.mono ?_; clear C51
                    rintro e w52 ⟨rfl, hb53⟩
                    have HF54 := Lib.hid (Facts.below hb53.below HD50b.out)
                    refine hK _ _ ⟨⟨fun _ => trivial, Facts.bel HF54.out⟩, ?_⟩
                    clear hK K
                    clear HD50b
                    clear hb53
                    refine mix4_take (v := .bool false) rfl rfl rfl (fun _ _ _ h => nomatch h.1) trivial (Facts.bel HF54.out) (fun Y _ _ => by (try simp only [Act.put]); go_simp) ?_
                    simp only [Act.put, List.setIfInBounds_toArray, List.set_cons_succ, List.set_cons_zero, List.getElem_toArray, List.getElem_cons_succ, List.getElem_cons_zero]
                    refine mix4_nil ?_
                    exact ⟨rfl, by kernel_rfl, (show Facts D49 [] w52 from Facts.bel HF54.out).unbase (Facts.bel HD50.out)⟩
                  rintro a' w55 ⟨rfl, hF⟩
                  have HF56 := Lib.hid hF
                  clear hF
                  simp only [Act.put, List.setIfInBounds_toArray, List.set_cons_succ, List.set_cons_zero, List.getElem_toArray, List.getElem_cons_succ, List.getElem_cons_zero]
                  have HF1 := HF56
                  clear HF56
                  have hbs : base ≤ w55.heap.size := by have := (Facts.bel HF1.out).size; omega
                  have HB := Lib.hid (HB.out.trans ((Facts.bel HF1.out).mono (by omega)))
                  have HROW := Lib.hid (HROW.out.below (Facts.bel HF1.out))
                  clear HF1
                  go_wp2_with fail
                  go_roundw
                  case rel => exact ⟨i + 1, c0, A0, its, by omega, by go_num, rfl, hbs, HN.out.symm, HB.out, HROW.out⟩
                  case measure => simp [intOf]; omega
                | false =>
                  have HN := Lib.hid (HNX.out.trans (by rw [HG.out, if_neg (of_decide_eq_false HS2.out.symm)]))
                  go_wp2_with fail
                  have HF0 := Lib.hid (show Facts w47 [] w47 from Below.refl _ _)
                  refine region_cutU (fun a0 a' w' => a' = (((((((((((a0.put (some 89) (.slice (some ⟨pb, poff, none⟩) q1.length c2)).put (some 90) (.int .i64 k)).put (some 91) (.pointer (some ⟨pb, poff + k * 8, none⟩))).put (some 92) (.pointer (some ⟨pb, poff + k * 8 + 4, none⟩))).put (some 93) (.agg #[.int .i64 u.kind, .string u.name, .int .i64 u.sort, .slice Au u.kids.length cu])).put (some 94) (.slice (some ⟨lb, loff, none⟩) L.length c4)).put (some 95) (.int .i64 i)).put (some 96) (.pointer (some ⟨lb, loff + i * 4, none⟩))).put (some 97) (.agg #[.int .i64 x.kind, .string x.name, .int .i64 x.sort, .slice Ax x.kids.length cx])).put (some 98) (.bool false)).put (some 99) (.bool true)) ∧ Facts w47 [] w') ?_ ?_
                  · skip
                    refine wp_region_mix4 (fun _ => True) (fun Y => Below w47.drew.heap.size w47.drew Y) [] (.held 0 (.held 1 (.held 2 (.held 3 (.held 4 (.held 5 (.held 6 (.held 7 (.held 8 (.op 9 (.held 10 .nil))))))))))) mixed (by kernel_rfl) ?_
                    have HD58 := Lib.hid (Facts.below (V' := w47.drew) (Below.refl _ _).drew HF0.out)
                    have HD58b := Lib.hid HD58.out.rebase
                    generalize w47.drew = D57 at *
                    refine mix4_take (v := .slice (some ⟨pb, poff, none⟩) q1.length c2) rfl rfl rfl (fun _ _ _ h => nomatch h.1) trivial (Facts.bel HD58b.out) (fun Y _ _ => by (try simp only [Act.put]); go_simp) ?_
                    refine mix4_take (v := .int .i64 k) rfl rfl rfl (fun _ _ _ h => nomatch h.1) trivial (Facts.bel HD58b.out) (fun Y _ _ => by (try simp only [Act.put]); go_simp) ?_
                    refine mix4_take (v := .pointer (some ⟨pb, poff + k * 8, none⟩)) rfl rfl rfl (fun _ _ _ h => nomatch h.1) trivial (Facts.bel HD58b.out) (fun Y _ _ => by (try simp only [Act.put]); go_simp) ?_
                    refine mix4_take (v := .pointer (some ⟨pb, poff + k * 8 + 4, none⟩)) rfl rfl rfl (fun _ _ _ h => nomatch h.1) trivial (Facts.bel HD58b.out) (fun Y _ _ => by (try simp only [Act.put]); go_simp) ?_
                    simp only [Act.put, List.setIfInBounds_toArray, List.set_cons_succ, List.set_cons_zero, List.getElem_toArray, List.getElem_cons_succ, List.getElem_cons_zero]
                    refine mix4_take (v := .agg #[.int .i64 u.kind, .string u.name, .int .i64 u.sort, .slice Au u.kids.length cu]) rfl rfl rfl (fun _ _ _ h => nomatch h.1) trivial (Facts.bel HD58b.out) (fun Y _ hY => by
                      have z0 := ((hY.cell (p := ⟨pb, poff + k * 8 + 4, none⟩) (Nat.lt_of_lt_of_le hpb hbD)).trans (HBD.out.cell (p := ⟨pb, poff + k * 8 + 4, none⟩) hpb)).trans H8.out.c4
                      have z1 := ((hY.cell (p := ⟨pb, poff + k * 8 + 4 + 1, none⟩) (Nat.lt_of_lt_of_le hpb hbD)).trans (HBD.out.cell (p := ⟨pb, poff + k * 8 + 4 + 1, none⟩) hpb)).trans H8.out.c5
                      have z2 := ((hY.cell (p := ⟨pb, poff + k * 8 + 4 + 2, none⟩) (Nat.lt_of_lt_of_le hpb hbD)).trans (HBD.out.cell (p := ⟨pb, poff + k * 8 + 4 + 2, none⟩) hpb)).trans H8.out.c6
                      have z3 := ((hY.cell (p := ⟨pb, poff + k * 8 + 4 + 3, none⟩) (Nat.lt_of_lt_of_le hpb hbD)).trans (HBD.out.cell (p := ⟨pb, poff + k * 8 + 4 + 3, none⟩) hpb)).trans H8.out.c7
                      (try simp only [Act.put]); go_simp) ?_
                    refine mix4_take (v := .slice (some ⟨lb, loff, none⟩) L.length c4) rfl rfl rfl (fun _ _ _ h => nomatch h.1) trivial (Facts.bel HD58b.out) (fun Y _ _ => by (try simp only [Act.put]); go_simp) ?_
                    refine mix4_take (v := .int .i64 i) rfl rfl rfl (fun _ _ _ h => nomatch h.1) trivial (Facts.bel HD58b.out) (fun Y _ _ => by (try simp only [Act.put]); go_simp) ?_
                    refine mix4_take (v := .pointer (some ⟨lb, loff + i * 4, none⟩)) rfl rfl rfl (fun _ _ _ h => nomatch h.1) trivial (Facts.bel HD58b.out) (fun Y _ _ => by (try simp only [Act.put]); go_simp) ?_
                    simp only [Act.put, List.setIfInBounds_toArray, List.set_cons_succ, List.set_cons_zero, List.getElem_toArray, List.getElem_cons_succ, List.getElem_cons_zero]
                    refine mix4_take (v := .agg #[.int .i64 x.kind, .string x.name, .int .i64 x.sort, .slice Ax x.kids.length cx]) rfl rfl rfl (fun _ _ _ h => nomatch h.1) trivial (Facts.bel HD58b.out) (fun Y _ hY => by
                      have z0 := ((hY.cell (p := ⟨lb, loff + i * 4, none⟩) (Nat.lt_of_lt_of_le hlb hbD)).trans (HBD.out.cell (p := ⟨lb, loff + i * 4, none⟩) hlb)).trans HX.out.1
                      have z1 := ((hY.cell (p := ⟨lb, loff + i * 4 + 1, none⟩) (Nat.lt_of_lt_of_le hlb hbD)).trans (HBD.out.cell (p := ⟨lb, loff + i * 4 + 1, none⟩) hlb)).trans HX.out.2.1
                      have z2 := ((hY.cell (p := ⟨lb, loff + i * 4 + 2, none⟩) (Nat.lt_of_lt_of_le hlb hbD)).trans (HBD.out.cell (p := ⟨lb, loff + i * 4 + 2, none⟩) hlb)).trans HX.out.2.2.1
                      have z3 := ((hY.cell (p := ⟨lb, loff + i * 4 + 3, none⟩) (Nat.lt_of_lt_of_le hlb hbD)).trans (HBD.out.cell (p := ⟨lb, loff + i * 4 + 3, none⟩) hlb)).trans HX.out.2.2.2
                      (try simp only [Act.put]); go_simp) ?_
                    simp only [Act.put, List.setIfInBounds_toArray, List.set_cons_succ, List.set_cons_zero, List.getElem_toArray, List.getElem_cons_succ, List.getElem_cons_zero]
                    refine mix4_op rfl rfl (fun K hK => ?_)
                    have C59 := rsame_any u x Au Ax cu cx D57 (by omega) hxs6 (RepP.mono (fun b (hb : b < base) => by show b < _; have := (Facts.bel HD58b.out).size; omega) (fun p hp => ((Facts.bel HD58b.out).cell (Nat.lt_of_lt_of_le hp hbD)).trans (HBD.out.cell hp)) _ _ _ H8.out.r2) (RepP.mono (fun b (hb : b < base) => by show b < _; have := (Facts.bel HD58b.out).size; omega) (fun p hp => ((Facts.bel HD58b.out).cell (Nat.lt_of_lt_of_le hp hbD)).trans (HBD.out.cell hp)) _ _ _ HRX.out)
                    rw [same_decM, ← HS2.out] at C59
                    simp only [Tm.val] at C59
                    have C59 := Lib.hid C59
                    go_wp2_with fail
                    refine C59.out.mono ?_; clear C59
                    rintro e w60 ⟨rfl, hb61⟩
                    have HF62 := Lib.hid (Facts.below hb61.below HD58b.out)
                    refine hK _ _ ⟨⟨fun _ => trivial, Facts.bel HF62.out⟩, ?_⟩
                    clear hK K
                    clear HD58b
                    clear hb61
                    refine mix4_take (v := .bool true) rfl rfl rfl (fun _ _ _ h => nomatch h.1) trivial (Facts.bel HF62.out) (fun Y _ _ => by (try simp only [Act.put]); go_simp) ?_
                    simp only [Act.put, List.setIfInBounds_toArray, List.set_cons_succ, List.set_cons_zero, List.getElem_toArray, List.getElem_cons_succ, List.getElem_cons_zero]
                    refine mix4_nil ?_
                    exact ⟨rfl, by kernel_rfl, (show Facts D57 [] w60 from Facts.bel HF62.out).unbase (Facts.bel HD58.out)⟩
                  rintro a' w63 ⟨rfl, hF⟩
                  have HF64 := Lib.hid hF
                  clear hF
                  simp only [Act.put, List.setIfInBounds_toArray, List.set_cons_succ, List.set_cons_zero, List.getElem_toArray, List.getElem_cons_succ, List.getElem_cons_zero]
                  have HF1 := HF64
                  clear HF64
                  have hbs : base ≤ w63.heap.size := by have := (Facts.bel HF1.out).size; omega
                  have HB := Lib.hid (HB.out.trans ((Facts.bel HF1.out).mono (by omega)))
                  have HROW := Lib.hid (HROW.out.below (Facts.bel HF1.out))
                  clear HF1
                  have hlen : its.length + 1 ≤ 100000000 := by
                    have h := congrArg List.length HN.out
                    rw [List.length_append, List.length_map] at h
                    have h5 : (bindM q1 (L.take (i + 1))).length ≤ (L.take (i + 1)).length := by
                      unfold bindM; rw [List.length_map]; exact List.length_filter_le _ _
                    rw [List.length_take] at h5
                    simp only [List.length_singleton] at h
                    omega
                  go_wp2_with fail
                  refine wp_region_mix4 (fun _ => True) (fun Y => ∀ q : Addr, q.block < base → Y.cell? q = w4.cell? q) [] (.held 0 (.held 1 (.held 2 (.held 3 (.held 4 (.held 5 (.held 6 (.held 7 (.held 8 (.held 9 (.held 10 (.op 11 (.op 12 (.held 13 .nil)))))))))))))) mixed (by kernel_rfl) ?_
                  have HBD : Hid (Below base w4 w63.drew) := HB.out.drew
                  have HROWD : Hid (RowG 48 w63.drew base (fun b => b < base) (.slice A0 its.length c0) its) := HROW.out.below (Below.refl _ _).drew
                  have hbD6 : base ≤ w63.drew.heap.size := hbs
                  clear HB HROW hbs hbD
                  generalize w63.drew = D at *
                  have own : ∀ j, (Value.slice A0 its.length c0).ownBlock = some j → base ≤ j := fun j e => (HROWD.out.lt j e).1
                  have low : ∀ b, b < base → b < base ∧ b < D.heap.size ∧ (Value.slice A0 its.length c0).ownBlock ≠ some b := fun b hb => ⟨hb, by omega, fun e => by have := own b e; omega⟩
                  have hrxD : RepP D (fun b => b < base ∧ b < D.heap.size ∧ (Value.slice A0 its.length c0).ownBlock ≠ some b) x Ax cx := RepP.mono low (fun p hp => HBD.out.cell hp) _ _ _ HRX.out
                  have hruD : RepP D (fun b => b < base ∧ b < D.heap.size ∧ (Value.slice A0 its.length c0).ownBlock ≠ some b) u Au cu := RepP.mono low (fun p hp => HBD.out.cell hp) _ _ _ H8.out.r2
                  obtain ⟨g, c9, W9, hap, hrow9, hbel9, hk9, hs9, -⟩ := HROWD.out.more1 elemBind (by omega) ((x, Ax, cx), (u, Au, cu)) hrxD hruD hlen
                  have HB9 : Hid (Below base w4 W9) := hbel9 _ _ HBD.out (Nat.le_refl _)
                  have HROW9 := Lib.hid hrow9
                  have sD : ∀ q : Addr, q.block < base → D.cell? q = w4.cell? q := fun q hq => HBD.out.cell hq
                  have s9 : ∀ q : Addr, q.block < base → W9.cell? q = w4.cell? q := fun q hq => HB9.out.cell hq
                  have hs9b : base ≤ W9.heap.size := by omega
                  dsimp only at hap
                  clear hrow9 hbel9 hk9 hs9 own low hrxD hruD
                  refine mix4_take (v := .slice A0 its.length c0) rfl rfl rfl (fun _ _ _ h => h) trivial sD (fun Y _ hY => by
                    (try simp only [Act.put]); go_simp) ?_
                  refine mix4_take (v := .slice (some ⟨lb, loff, none⟩) L.length c4) rfl rfl rfl (fun _ _ _ h => h) trivial sD (fun Y _ hY => by
                    (try simp only [Act.put]); go_simp) ?_
                  refine mix4_take (v := .int .i64 i) rfl rfl rfl (fun _ _ _ h => h) trivial sD (fun Y _ hY => by
                    (try simp only [Act.put]); go_simp) ?_
                  refine mix4_take (v := .pointer (some ⟨lb, loff + i * 4, none⟩)) rfl rfl rfl (fun _ _ _ h => h) trivial sD (fun Y _ hY => by
                    (try simp only [Act.put]); go_simp) ?_
                  simp only [Act.put, List.setIfInBounds_toArray, List.set_cons_succ, List.set_cons_zero, List.getElem_toArray, List.getElem_cons_succ, List.getElem_cons_zero]
                  refine mix4_take (v := .agg #[.int .i64 x.kind, .string x.name, .int .i64 x.sort, .slice Ax x.kids.length cx]) rfl rfl rfl (fun _ _ _ h => h) trivial sD (fun Y _ hY => by
                    have z0 := (hY ⟨lb, loff + i * 4, none⟩ hlb).trans HX.out.1
                    have z1 := (hY ⟨lb, loff + i * 4 + 1, none⟩ hlb).trans HX.out.2.1
                    have z2 := (hY ⟨lb, loff + i * 4 + 2, none⟩ hlb).trans HX.out.2.2.1
                    have z3 := (hY ⟨lb, loff + i * 4 + 3, none⟩ hlb).trans HX.out.2.2.2
                    clear hY
                    (try simp only [Act.put]); go_simp) ?_
                  refine mix4_take (v := .slice (some ⟨pb, poff, none⟩) q1.length c2) rfl rfl rfl (fun _ _ _ h => h) trivial sD (fun Y _ hY => by
                    (try simp only [Act.put]); go_simp) ?_
                  refine mix4_take (v := .int .i64 k) rfl rfl rfl (fun _ _ _ h => h) trivial sD (fun Y _ hY => by
                    (try simp only [Act.put]); go_simp) ?_
                  refine mix4_take (v := .pointer (some ⟨pb, poff + k * 8, none⟩)) rfl rfl rfl (fun _ _ _ h => h) trivial sD (fun Y _ hY => by
                    (try simp only [Act.put]); go_simp) ?_
                  simp only [Act.put, List.setIfInBounds_toArray, List.set_cons_succ, List.set_cons_zero, List.getElem_toArray, List.getElem_cons_succ, List.getElem_cons_zero]
                  refine mix4_take (v := .pointer (some ⟨pb, poff + k * 8 + 4, none⟩)) rfl rfl rfl (fun _ _ _ h => h) trivial sD (fun Y _ hY => by
                    (try simp only [Act.put]); go_simp) ?_
                  refine mix4_take (v := .agg #[.int .i64 u.kind, .string u.name, .int .i64 u.sort, .slice Au u.kids.length cu]) rfl rfl rfl (fun _ _ _ h => h) trivial sD (fun Y _ hY => by
                    have z0 := (hY ⟨pb, poff + k * 8 + 4, none⟩ hpb).trans H8.out.c4
                    have z1 := (hY ⟨pb, poff + k * 8 + 4 + 1, none⟩ hpb).trans H8.out.c5
                    have z2 := (hY ⟨pb, poff + k * 8 + 4 + 2, none⟩ hpb).trans H8.out.c6
                    have z3 := (hY ⟨pb, poff + k * 8 + 4 + 3, none⟩ hpb).trans H8.out.c7
                    clear hY
                    (try simp only [Act.put]); go_simp) ?_
                  refine mix4_take (v := .agg #[.int .i64 x.kind, .string x.name, .int .i64 x.sort, .slice Ax x.kids.length cx, .int .i64 u.kind, .string u.name, .int .i64 u.sort, .slice Au u.kids.length cu]) rfl rfl rfl (fun _ _ _ h => h) trivial sD (fun Y _ hY => by
                    (try simp only [Act.put]); go_simp) ?_
                  simp only [Act.put, List.setIfInBounds_toArray, List.set_cons_succ, List.set_cons_zero, List.getElem_toArray, List.getElem_cons_succ, List.getElem_cons_zero]
                  refine mix4_op rfl rfl (fun K hK => ?_)
                  go_wp2_with fail
                  refine ⟨⟨fun _ => trivial, fun q hq => ((below1 (Nat.le_refl D.heap.size) _).cell (Nat.lt_of_lt_of_le hq hbD6)).trans (sD q hq)⟩, ?_⟩
                  refine mix4_op rfl rfl (fun K hK => ?_)
                  refine wp_run_append (by rfl) (.tmp 100) (.tmp 111) (by rfl) (by rfl) (by rfl) hap ?_
                  refine hK _ _ ⟨⟨fun _ => trivial, s9⟩, ?_⟩
                  clear hK K hap
                  refine mix4_take (v := .slice (some ⟨g, 0, none⟩) (its.length + 1) c9) rfl rfl rfl (fun _ _ _ h => h) trivial s9 (fun Y _ hY => by
                    (try simp only [Act.put]); go_simp) ?_
                  simp only [Act.put, List.setIfInBounds_toArray, List.set_cons_succ, List.set_cons_zero]
                  refine mix4_nil ?_
                  clear sD s9
                  go_wp2_with fail
                  go_roundw
                  case rel => exact ⟨i + 1, c9, some ⟨g, 0, none⟩, its ++ [((x, Ax, cx), (u, Au, cu))], by omega, by go_num, by rw [List.length_append]; rfl, hs9b, by show _ = _; rw [HN.out, List.map_append]; rfl, HB9.out, by rw [List.length_append]; exact HROW9.out⟩
                  case measure => simp [intOf]; omega
            · obtain rfl : k = q1.length := by omega
              have h := HLK.out.2
              rw [List.drop_length, HXQ.out] at h
              exact absurd h (by simp [hasS])
        · obtain rfl : i = L.length := by omega
          have hit := HIT.out
          rw [List.take_length] at hit
          obtain ⟨A7, c7, hv7, hrep7⟩ := HROW.out.toB (P := fun b => b < wr.heap.size) (fun b _ h _ => h) (fun b h => (HROW.out.lt b h).2)
          injection hv7 with g1 g2 g3
          clear g2
          subst g1 g3
          rw [hit] at hrep7
          have hlb : its.length = (bindM q1 L).length := by rw [← hit, List.length_map]
          have hr := HR4.out
          rw [← HL.out] at hr
          subst hr
          have HREP7 := Lib.hid hrep7
          have HLB := Lib.hid hlb
          have hbw4 : Below w4.heap.size w4 wr := by rw [← HBE.out]; exact HB.out
          have HBW := Lib.hid (below_then HW4.out hbw4 HW4.out.size)
          clear hrep7 hlb hit HIT HR4
          go_wp2_with fail
          go_ret2
          exact ⟨A0, c0, by rw [HLB.out]; rfl, HREP7.out, HBW.out⟩
end Go.Proofs.YtmajbopjaejliaaGreatDoor
