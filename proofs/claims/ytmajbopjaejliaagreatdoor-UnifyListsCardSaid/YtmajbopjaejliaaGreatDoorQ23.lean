/- Ulists (joined by shake.py). -/
import Derived.Test.YtmajbopjaejliaaGreatDoorQ15
import Derived.Test.YtmajbopjaejliaaGreatDoorQ18
import Derived.Test.YtmajbopjaejliaaGreatDoorQ19
namespace Go.Proofs.YtmajbopjaejliaaGreatDoor
open Go.RowKit Go.Sort
theorem ifp_pos {c a b : Prop} [Decidable c] (h : if c then a else b) (hc : c) : a := by rwa [if_pos hc] at h
theorem ifp_neg {c a b : Prop} [Decidable c] (h : if c then a else b) (hc : ¬ c) : b := by rwa [if_neg hc] at h
/-- the first error of a list -/
def errV : List Tm → Int
  | [] => 0
  | t :: r => if t.valid ≠ 0 then t.valid else errV r
theorem errV_drop (l : List Tm) (k : Nat) (h : k < l.length) : errV (l.drop k) = if l[k].valid ≠ 0 then l[k].valid else errV (l.drop (k + 1)) := by
  rw [List.drop_eq_getElem_cons h, errV]
theorem errV_zero : ∀ {l : List Tm}, errV l = 0 → ∀ t ∈ l, t.valid = 0
  | [], _, t, ht => nomatch ht
  | x :: r, h, t, ht => by
    rw [errV] at h
    split at h
    · rename_i g; exact absurd h g
    · rename_i g
      rcases List.mem_cons.1 ht with rfl | ht
      · simpa using g
      · exact errV_zero h t ht
/-- what Lists answers -/
def ListsAns (l m : List Tm) (r : Int × List Bd) : Prop :=
  if 200 < l.length ∨ 200 < m.length then r = (3, []) else if errV (l ++ m) ≠ 0 then r = (errV (l ++ m), []) else if l.length ≠ m.length then r = (6, []) else ∃ n, runU n (l.zip m) [] = some r
theorem zip_vars : ∀ (l m : List Tm), ((l.zip m).flatMap fun p => p.1.all ++ p.2.all).length ≤ Tm.sizes l + Tm.sizes m
  | [], m => by simp
  | t :: l, [] => by simp
  | t :: l, u :: m => by
    have h := zip_vars l m
    have e : (((t :: l).zip (u :: m)).flatMap fun p => p.1.all ++ p.2.all) = (t.all ++ u.all) ++ ((l.zip m).flatMap fun p => p.1.all ++ p.2.all) := rfl
    rw [e, List.length_append, List.length_append, allU_length, allU_length, Tm.sizes, Tm.sizes]
    omega
theorem lists_ans (l m : List Tm) (hl : Tm.sizes l ≤ 1000) (hm : Tm.sizes m ≤ 1000) : ∃ r, ListsAns l m r := by
  unfold ListsAns
  split
  · exact ⟨_, rfl⟩
  · rename_i h1
    split
    · exact ⟨_, rfl⟩
    · rename_i h2
      split
      · exact ⟨_, rfl⟩
      · have hv := errV_zero (by simpa using h2 : errV (l ++ m) = 0)
        obtain ⟨n, r, hr⟩ := start_ex (ps := l.zip m) (fun p hp => ⟨hv _ (List.mem_append_left _ (List.of_mem_zip hp).1), hv _ (List.mem_append_right _ (List.of_mem_zip hp).2)⟩) (by rw [List.length_zip]; omega)
          (by unfold varsP; exact Nat.le_trans (List.length_filter_le _ _) (Nat.le_trans (zip_vars l m) (by omega)))
        exact ⟨r, n, hr⟩
theorem lists_size {l m : List Tm} {r : Int × List Bd} (h : ListsAns l m r) : SizeB (solvedU r).1 := by
  have key : ∀ n : Int, n ≠ 0 → SizeB (solvedU (n, ([] : List Bd))).1 := fun n hn b hb => by
    unfold solvedU at hb
    rw [if_neg (by simpa using hn)] at hb
    exact absurd hb (by simp)
  unfold ListsAns at h
  split at h
  · rw [h]; exact key 3 (by decide)
  · split at h
    · rename_i h2; rw [h]; exact key _ h2
    · rename_i h2
      split at h
      · rw [h]; exact key 6 (by decide)
      · obtain ⟨n, hr⟩ := h
        have hv := errV_zero (by simpa using h2 : errV (l ++ m) = 0)
        intro b hb
        unfold solvedU at hb
        split at hb
        · rename_i h0
          obtain ⟨e, s⟩ := r
          have h0 : e = 0 := h0
          subst h0
          obtain ⟨g1, -, g2⟩ := (run_sound hr ⟨List.Pairwise.nil, by simp⟩).2.2.2.1 b ((sortS_perm s).mem_iff.1 hb)
          have := valid_size g1
          have := valid_size g2
          exact ⟨by omega, by omega⟩
        · exact absurd hb (by simp)
theorem zip_take_succ (l m : List Tm) (k : Nat) (h : k < l.length) (h2 : k < m.length) : (l.zip m).take (k + 1) = (l.zip m).take k ++ [(l[k], m[k])] := by
  rw [List.take_succ_eq_append_getElem (by rw [List.length_zip]; omega), List.getElem_zip]
set_option maxHeartbeats 2000000 in
set_option maxRecDepth 100000 in
theorem lists_any (l m : List Tm) (L0 M0 : Option Addr) (lc mc : Nat) (r : Int × List Bd) (w : World) (hsz : ∀ t ∈ l ++ m, t.size ≤ 1000000) (hl1 : l.length ≤ 1000) (hm1 : m.length ≤ 1000) (hans : ListsAns l m r) (hrl : RepS w (fun b => b < w.heap.size) l L0 lc) (hrm : RepS w (fun b => b < w.heap.size) m M0 mc) :
    Calls Tryz.prog 19 #[.slice L0 l.length lc, .slice M0 m.length mc] w (SolvedU r w) := by
  have mixed : Tryz.prog.follows .mixedOrders = true := by kernel_rfl
  unfold ListsAns at hans
  have HANS := Lib.hid hans; clear hans
  have HSZ := Lib.hid hsz; clear hsz
  have HRL := Lib.hid hrl
  have HRM := Lib.hid hrm
  clear hrl hrm
  go_enter Tryz.func19, Tryz.ntmps19
  by_cases hbl : 200 < l.length
  · have hr := ifp_pos HANS.out (.inl hbl)
    subst hr
    clear HANS
    go_wp2_with fail
    go_ret2
    exact solved_err (by decide) (Below.refl _ _)
  by_cases hbm : 200 < m.length
  · have hr := ifp_pos HANS.out (.inr hbm)
    subst hr
    clear HANS
    go_wp2_with fail
    go_ret2
    exact solved_err (by decide) (Below.refl _ _)
  have HANS1 := Lib.hid (ifp_neg HANS.out (by omega : ¬ (200 < l.length ∨ 200 < m.length))); clear HANS
  obtain ⟨W1, hW1⟩ : ∃ W1, W1 = w.alloc (.cells #[.slice L0 l.length lc, .slice M0 m.length mc] 22) := ⟨_, rfl⟩
  have bW1 : Below w.heap.size w W1 := by rw [hW1]; exact below1 (Nat.le_refl _) _
  have cW1 : W1.heap[w.heap.size]? = some (.cells #[.slice L0 l.length lc, .slice M0 m.length mc] 22 (0, 0)) := by rw [hW1]; exact heap_alloc_new _ _
  have sW1 := bW1.size
  have CC := concat_any l m L0 M0 lc mc w.heap.size W1 (by omega) (by omega) cW1 (RepS.mono (fun b (h : b < _) => by omega) (fun p hp => bW1.cell hp) HRL.out) (RepS.mono (fun b (h : b < _) => by omega) (fun p hp => bW1.cell hp) HRM.out)
  obtain ⟨L, hL⟩ : ∃ L, L = l ++ m := ⟨_, rfl⟩
  rw [← hL] at CC
  have hll : L.length ≤ 2000 := by rw [hL, List.length_append]; omega
  have HLE := Lib.hid hL; clear hL
  have CC := Lib.hid CC
  have HBW1 := Lib.hid bW1; clear bW1 cW1
  have HW1 := Lib.hid hW1; clear hW1
  go_wp2_with fail
  rw [← HW1.out]
  refine CC.out.mono ?_; clear CC HW1
  rintro e w2 ⟨A2, c2, its2, rfl, hrow2, his2, hb2⟩
  obtain ⟨A2', c2', he2, hS2⟩ := hrow2.toS (P := fun b => b < w2.heap.size) (fun b h h' => h') (fun b _ h' => h')
  injection he2 with he1 he3 he4
  subst he1 he4
  rw [his2] at hS2
  have HF2 := Lib.hid (show Facts w [.terms L A2 c2] w2 from ⟨hS2, below_then HBW1.out hb2 HBW1.out.size⟩)
  clear hS2 hrow2 his2 hb2 he3 sW1 HBW1
  go_wp2_with fail
  go_loopw [24] (fun i wr => ∃ k : Nat, k ≤ L.length ∧ i = .int .i64 k ∧ Hid (errV L = errV (L.drop k)) ∧ Hid (Facts w [.terms L A2 c2] wr)) (fun i _ => L.length - (intOf i).toNat)
  case atStart => exact ⟨0, Nat.zero_le _, rfl, rfl, HF2.out⟩
  case round =>
    clear HF2
    obtain ⟨k, hk, rfl, HE, HF⟩ := hrel
    have i1 : (0 : Int) ≤ (k : Int) := Int.natCast_nonneg _
    by_cases hlt : k < L.length
    · have i2 : (k : Int) < (L.length : Int) := by omega
      rcases HF.out.1.2.2 with h | ⟨kb, off, hA2, hkb, hlp⟩
      · rw [h] at hlt; simp at hlt
      obtain ⟨Ax, cx, a0, a1, a2, a3, hrx⟩ := hlp.get k hlt
      have hst := errV_drop L k hlt
      rw [← HE.out] at hst
      have htz := HSZ.out L[k] (by rw [← HLE.out]; exact List.getElem_mem hlt)
      obtain ⟨x, hx⟩ : ∃ x, x = L[k] := ⟨_, rfl⟩
      rw [← hx] at a0 a1 a2 a3 hrx hst htz
      clear hx
      subst hA2
      obtain ⟨X, hX⟩ : ∃ X, X = wr.alloc (.cells #[.int .i64 x.kind, .string x.name, .int .i64 x.sort, .slice Ax x.kids.length cx] 24) := ⟨_, rfl⟩
      have bX : Below wr.heap.size wr X := by rw [hX]; exact below1 (Nat.le_refl _) _
      have cX : X.heap[wr.heap.size]? = some (.cells #[.int .i64 x.kind, .string x.name, .int .i64 x.sort, .slice Ax x.kids.length cx] 24 (0, 0)) := by rw [hX]; exact heap_alloc_new _ _
      have HFX := Lib.hid (Facts.below bX HF.out)
      have VX := valid_any x Ax cx X htz (RepP.mono (fun b (h : b < wr.heap.size) => Nat.lt_of_lt_of_le h bX.size) (fun p hp => bX.cell hp) _ _ _ hrx)
      obtain ⟨d0, d1, d2, d3, -⟩ := box_at cX
      rw [hX] at d0 d1 d2 d3
      have HX := Lib.hid hX
      clear hX bX cX hlp hrx HF
      obtain ⟨q, hq⟩ : ∃ q, q = x.valid := ⟨_, rfl⟩
      rw [← hq] at VX hst
      simp only [Tm.val] at VX
      have VX := Lib.hid VX
      have HST := Lib.hid hst; clear hst hq
      go_wp2_with fail
      rw [← HX.out]
      try go_wp2_with fail
      refine VX.out.mono ?_; clear VX a0 a1 a2 a3 d0 d1 d2 d3
      rintro e w3 ⟨rfl, hl3⟩
      have HF3 := Lib.hid (Facts.below hl3.below HFX.out); clear HFX hl3
      rcases eq_facts q 0 with ⟨e0, e1, n1⟩ | ⟨e0, e1, n1⟩
      · have HE2 := Lib.hid (HST.out.trans (if_neg (by simpa using e0))); clear HST HE
        clear e0
        go_wp2_with fail
        go_roundw
        case rel => exact ⟨k + 1, by omega, by go_num, HE2.out, HF3.out⟩
        case measure => simp [intOf]; omega
      · have he := HST.out.trans (if_pos e0)
        have hr := ifp_pos HANS1.out (by rw [← HLE.out, he]; exact e0)
        rw [← HLE.out, he] at hr
        subst hr
        clear HANS1 HST HE he
        go_wp2_with fail
        go_ret2
        exact solved_err e0 (Facts.bel HF3.out)
    · obtain rfl : k = L.length := by omega
      have hE : errV L = 0 := by have := HE.out; rw [List.drop_length] at this; exact this
      have HANS2 := Lib.hid (ifp_neg HANS1.out (by rw [← HLE.out, hE]; simp)); clear HANS1 hE HE
      by_cases hlm : l.length = m.length
      rotate_left
      · have hr := ifp_pos HANS2.out hlm
        subst hr
        clear HANS2
        have e1 : ((l.length : Int) != (m.length : Int)) = true := by rw [bne_iff_ne]; omega
        go_wp2_with fail
        go_ret2
        exact solved_err (by decide) (Facts.bel HF.out)
      obtain ⟨n, hrun⟩ := ifp_neg HANS2.out (by simpa using hlm)
      have e1 : ((l.length : Int) != (m.length : Int)) = false := by rw [bne_eq_false_iff_eq]; omega
      have HRUN := Lib.hid hrun; clear hrun HANS2
      have HB0 := Lib.hid (Facts.bel HF.out); clear HF
      have HLM := Lib.hid hlm; clear hlm
      go_wp2_with fail
      clear e1
      go_loopw [9, 41] (fun v i wr => ∃ (k c0 : Nat) (A0 : Option Addr) (its : List IB), k ≤ l.length ∧ i = .int .i64 k ∧ v = .slice A0 its.length c0 ∧ Hid (its.map IB.bd = (l.zip m).take k) ∧ Hid (Below w.heap.size w wr) ∧ Hid (RowG 53 wr w.heap.size (fun b => b < w.heap.size) (.slice A0 its.length c0) its)) (fun _ i _ => l.length - (intOf i).toNat)
      case atStart => exact ⟨0, 0, none, [], Nat.zero_le _, rfl, rfl, rfl, HB0.out, RowG.nil _ _ _ _⟩
      case round =>
        clear HB0
        obtain ⟨k, c0, A0, its, hk, rfl, rfl, HIT, HB, HROW⟩ := hrel
        have i1 : (0 : Int) ≤ (k : Int) := Int.natCast_nonneg _
        by_cases hlt : k < l.length
        · have hlt2 : k < m.length := by have := HLM.out; omega
          have i2 : (k : Int) < (l.length : Int) := by omega
          have i3 : (k : Int) < (m.length : Int) := by omega
          rcases HRL.out.2.2 with h | ⟨lb, loff, hL0, hlb, hll'⟩
          · rw [h] at hlt; simp at hlt
          rcases HRM.out.2.2 with h | ⟨mb, moff, hM0, hmb, hml'⟩
          · rw [h] at hlt2; simp at hlt2
          subst hL0 hM0
          obtain ⟨D, hD⟩ : ∃ D, D = wr.drew := ⟨_, rfl⟩
          have hBD : Below w.heap.size w D := by rw [hD]; exact HB.out.trans ((Below.refl _ _).drew)
          have hRD : RowG 53 D w.heap.size (fun b => b < w.heap.size) (.slice A0 its.length c0) its := by rw [hD]; exact HROW.out.below (Below.refl _ _).drew
          obtain ⟨Ax, cx, a0, a1, a2, a3, hrx⟩ := (RepLP.mono (fun _ h => h) (fun p hp => hBD.cell hp) _ _ _ hlb hll' : RepLP D (fun b => b < w.heap.size) l lb loff).get k hlt
          obtain ⟨Ay, cy, b0, b1, b2, b3, hry⟩ := (RepLP.mono (fun _ h => h) (fun p hp => hBD.cell hp) _ _ _ hmb hml' : RepLP D (fun b => b < w.heap.size) m mb moff).get k hlt2
          have hnx := zip_take_succ l m k hlt hlt2
          rw [← HIT.out] at hnx
          obtain ⟨x, hx⟩ : ∃ x, x = l[k] := ⟨_, rfl⟩
          obtain ⟨y, hy⟩ : ∃ y, y = m[k] := ⟨_, rfl⟩
          rw [← hx] at a0 a1 a2 a3 hrx hnx
          rw [← hy] at b0 b1 b2 b3 hry hnx
          have HNX := Lib.hid hnx
          have hlen : its.length + 1 ≤ 100000000 := by
            have h := congrArg List.length HIT.out
            rw [List.length_map, List.length_take] at h; omega
          clear hx hy hnx hll' hml' HB HROW
          have own : ∀ k, (Value.slice A0 its.length c0).ownBlock = some k → w.heap.size ≤ k := fun k e => (hRD.lt k e).1
          have hDs := hBD.size
          have low : ∀ b, b < w.heap.size → b < w.heap.size ∧ b < D.heap.size ∧ (Value.slice A0 its.length c0).ownBlock ≠ some b := fun b hb => ⟨hb, by omega, fun e => by have := own b e; omega⟩
          obtain ⟨g, c9, W9, hap, hrow9, hbel9, hk9, hs9, -⟩ := hRD.more1 elemPair hDs ((x, Ax, cx), (y, Ay, cy)) (RepP.mono low (fun _ _ => rfl) _ _ _ hrx) (RepP.mono low (fun _ _ => rfl) _ _ _ hry) hlen
          have HB9 := Lib.hid (hbel9 _ _ hBD (Nat.le_refl _))
          have HROW9 := Lib.hid hrow9
          dsimp only at hap
          clear hrow9 hbel9 hRD hrx hry low own
          go_wp2_with fail
          refine wp_region_mix4 (fun _ => True) (fun Y => Below w.heap.size w Y) [] (.held 0 (.held 1 (.held 2 (.held 3 (.held 4 (.held 5 (.held 6 (.held 7 (.held 8 (.held 9 (.op 10 (.op 11 (.held 12 .nil))))))))))))) mixed (by kernel_rfl) ?_
          rw [← hD]
          have hBd : Below w.heap.size w D := hBD
          clear hD
          refine mix4_take (v := .slice A0 its.length c0) rfl rfl rfl (fun _ _ _ h => h) trivial hBd (fun Y _ hY => by
            (try simp only [Act.put]); go_simp) ?_
          refine mix4_take (v := .slice (some ⟨lb, loff, none⟩) l.length lc) rfl rfl rfl (fun _ _ _ h => h) trivial hBd (fun Y _ hY => by
            (try simp only [Act.put]); go_simp) ?_
          refine mix4_take (v := .int .i64 k) rfl rfl rfl (fun _ _ _ h => h) trivial hBd (fun Y _ hY => by
            (try simp only [Act.put]); go_simp) ?_
          refine mix4_take (v := .pointer (some ⟨lb, loff + k * 4, none⟩)) rfl rfl rfl (fun _ _ _ h => h) trivial hBd (fun Y _ hY => by
            (try simp only [Act.put]); go_simp) ?_
          refine mix4_take (v := .agg #[.int .i64 x.kind, .string x.name, .int .i64 x.sort, .slice Ax x.kids.length cx]) rfl rfl rfl (fun _ _ _ h => h) trivial hBd (fun Y _ hY => by
            have z0 := ((hY.cell (p := ⟨lb, loff + k * 4, none⟩) hlb).trans (hBd.cell (p := ⟨lb, loff + k * 4, none⟩) hlb).symm).trans a0
            have z1 := ((hY.cell (p := ⟨lb, loff + k * 4 + 1, none⟩) hlb).trans (hBd.cell (p := ⟨lb, loff + k * 4 + 1, none⟩) hlb).symm).trans a1
            have z2 := ((hY.cell (p := ⟨lb, loff + k * 4 + 2, none⟩) hlb).trans (hBd.cell (p := ⟨lb, loff + k * 4 + 2, none⟩) hlb).symm).trans a2
            have z3 := ((hY.cell (p := ⟨lb, loff + k * 4 + 3, none⟩) hlb).trans (hBd.cell (p := ⟨lb, loff + k * 4 + 3, none⟩) hlb).symm).trans a3
            (try simp only [Act.put]); go_simp) ?_
          refine mix4_take (v := .slice (some ⟨mb, moff, none⟩) m.length mc) rfl rfl rfl (fun _ _ _ h => h) trivial hBd (fun Y _ hY => by
            (try simp only [Act.put]); go_simp) ?_
          refine mix4_take (v := .int .i64 k) rfl rfl rfl (fun _ _ _ h => h) trivial hBd (fun Y _ hY => by
            (try simp only [Act.put]); go_simp) ?_
          refine mix4_take (v := .pointer (some ⟨mb, moff + k * 4, none⟩)) rfl rfl rfl (fun _ _ _ h => h) trivial hBd (fun Y _ hY => by
            (try simp only [Act.put]); go_simp) ?_
          refine mix4_take (v := .agg #[.int .i64 y.kind, .string y.name, .int .i64 y.sort, .slice Ay y.kids.length cy]) rfl rfl rfl (fun _ _ _ h => h) trivial hBd (fun Y _ hY => by
            have z0 := ((hY.cell (p := ⟨mb, moff + k * 4, none⟩) hmb).trans (hBd.cell (p := ⟨mb, moff + k * 4, none⟩) hmb).symm).trans b0
            have z1 := ((hY.cell (p := ⟨mb, moff + k * 4 + 1, none⟩) hmb).trans (hBd.cell (p := ⟨mb, moff + k * 4 + 1, none⟩) hmb).symm).trans b1
            have z2 := ((hY.cell (p := ⟨mb, moff + k * 4 + 2, none⟩) hmb).trans (hBd.cell (p := ⟨mb, moff + k * 4 + 2, none⟩) hmb).symm).trans b2
            have z3 := ((hY.cell (p := ⟨mb, moff + k * 4 + 3, none⟩) hmb).trans (hBd.cell (p := ⟨mb, moff + k * 4 + 3, none⟩) hmb).symm).trans b3
            (try simp only [Act.put]); go_simp) ?_
          refine mix4_take (v := .agg #[.int .i64 x.kind, .string x.name, .int .i64 x.sort, .slice Ax x.kids.length cx, .int .i64 y.kind, .string y.name, .int .i64 y.sort, .slice Ay y.kids.length cy]) rfl rfl rfl (fun _ _ _ h => h) trivial hBd (fun Y _ hY => by
            (try simp only [Act.put]); go_simp) ?_
          simp only [Act.put, List.setIfInBounds_toArray]
          clear a0 a1 a2 a3 b0 b1 b2 b3
          refine mix4_op rfl rfl (fun K hK => ?_)
          go_wp2_with fail
          refine ⟨⟨fun _ => trivial, hBd.alloc hDs _⟩, ?_⟩
          refine mix4_op rfl rfl (fun K hK => ?_)
          refine wp_run_append (by rfl) (.tmp 44) (.tmp 54) (by rfl) (by rfl) (by rfl) hap ?_
          have hBd9 : Below w.heap.size w W9 := HB9.out
          refine hK _ _ ⟨⟨fun _ => trivial, hBd9⟩, ?_⟩
          clear hK K hap
          refine mix4_take (v := .slice (some ⟨g, 0, none⟩) (its.length + 1) c9) rfl rfl rfl (fun _ _ _ h => h) trivial hBd9 (fun Y _ _ => by (try simp only [Act.put]); go_simp) ?_
          refine mix4_nil ?_
          clear hBd9 hBd hk9 hs9
          go_wp2_with fail
          go_roundw
          case rel => exact ⟨k + 1, c9, some ⟨g, 0, none⟩, its ++ [((x, Ax, cx), (y, Ay, cy))], by omega, by go_num, by rw [List.length_append]; rfl, by show _ = _; rw [HNX.out, List.map_append]; rfl, HB9.out, by rw [List.length_append]; exact HROW9.out⟩
          case measure => simp [intOf]; omega
        · obtain rfl : k = l.length := by omega
          have hit := HIT.out
          rw [List.take_of_length_le (by rw [List.length_zip]; omega)] at hit
          obtain ⟨A7, c7, hv7, hrep7⟩ := HROW.out.toB (P := fun b => b < wr.heap.size) (fun b _ h _ => h) (fun b h => (HROW.out.lt b h).2)
          injection hv7 with g1 g2 g3
          clear g2
          subst g1 g3
          rw [hit] at hrep7
          have hlz : its.length = (l.zip m).length := by rw [← hit, List.length_map]
          have SO := solve_any n (l.zip m) r A0 c0 wr hrep7 HRUN.out
          rw [← hlz] at SO
          have SO := Lib.hid SO
          clear hrep7 hlz hit HIT
          go_wp2_with fail
          refine SO.out.mono ?_; clear SO
          rintro e w9 ⟨A9, c9, rfl, hr9, hb9⟩
          have HR9 := Lib.hid hr9; clear hr9
          have HB9 := Lib.hid (HB.out.trans (hb9.mono HB.out.size)); clear hb9
          go_wp2_with fail
          go_ret2
          exact ⟨A9, c9, rfl, HR9.out, HB9.out⟩
set_option maxHeartbeats 2000000 in
set_option maxRecDepth 100000 in
theorem rlists_any (l m : List Tm) (L0 M0 : Option Addr) (lc mc : Nat) (r : Int × List Bd) (w : World) (hsz : ∀ t ∈ l ++ m, t.size ≤ 1000000) (hl1 : l.length ≤ 1000) (hm1 : m.length ≤ 1000) (hans : ListsAns l m r) (hrl : RepS w (fun b => b < w.heap.size) l L0 lc) (hrm : RepS w (fun b => b < w.heap.size) m M0 mc) :
    Calls Tryz.prog 20 #[.slice L0 l.length lc, .slice M0 m.length mc] w (SolvedU r w) := by
  have mixed : Tryz.prog.follows .mixedOrders = true := by kernel_rfl
  unfold ListsAns at hans
  have HANS := Lib.hid hans; clear hans
  have HSZ := Lib.hid hsz; clear hsz
  have HRL := Lib.hid hrl
  have HRM := Lib.hid hrm
  obtain ⟨V1, hV1⟩ : ∃ V1, V1 = w.alloc (.cells #[] 24) := ⟨_, rfl⟩
  have bV1 : Below w.heap.size w V1 := by rw [hV1]; exact below1 (Nat.le_refl _) _
  have hrow0 : RowT V1 w.heap.size (fun b => b < w.heap.size) (.slice (some ⟨w.heap.size, 0, none⟩) 0 0) [] := by
    refine ⟨?_, by simp⟩
    have h := World.ownsRow_made (base := w.heap.size) (e := 24) (size := 4) w #[] 0 (by simp) (by simp [maxLen]) rfl
    rw [hV1]
    exact h
  have up : ∀ {Z : World} {t : List Tm} {T : Option Addr} {k : Nat}, Below w.heap.size w Z → RepS w (fun b => b < w.heap.size) t T k → RepS Z (fun b => b < w.heap.size) t T k := fun hZ h => RepS.mono (fun _ h => h) (fun p hp => hZ.cell hp) h
  obtain ⟨A1, c1, V2, it1, hm1', hap1, hrow1, hg1⟩ := rowT_moreS hrow0 (Nat.le_refl _) bV1.size (up bV1 hrl) (by simp; omega)
  have hb2 := hg1 _ _ bV1 (Nat.le_refl _)
  simp only [List.length_nil, Nat.zero_add, List.nil_append] at hap1 hrow1
  have hl2 : it1.length = l.length := by rw [← hm1', List.length_map]
  rw [← hl2] at hrow1
  obtain ⟨A2, c2, V3, it2, hm2', hap2, hrow2, hg2⟩ := rowT_moreS hrow1 (Nat.le_refl _) hb2.size (up hb2 hrm) (by omega)
  have hb3 := hg2 _ _ hb2 (Nat.le_refl _)
  rw [hl2] at hap2 hrow2
  obtain ⟨A2', c2', he2, hS2⟩ := hrow2.toS (P := fun b => b < V3.heap.size) (fun b h h' => h') (fun b _ h' => h')
  injection he2 with he1 he3 he4
  subst he1 he4
  rw [List.map_append, hm1', hm2'] at hS2
  obtain ⟨L, hL⟩ : ∃ L, L = l ++ m := ⟨_, rfl⟩
  have hll : l.length + m.length = L.length := by rw [hL, List.length_append]
  rw [← hL] at hS2
  rw [hV1] at hap1
  rw [hll] at hap2
  have hll2 : L.length ≤ 2000 := by omega
  clear hll
  have HF2 := Lib.hid (show Facts w [.terms L A2 c2] V3 from ⟨hS2, hb3⟩)
  have HLE := Lib.hid hL
  clear hS2 hb3 hb2 hrow2 hrow1 hrow0 hg1 hg2 up hm1' hm2' hl2 he3 hV1 bV1 hL
  clear hrl hrm
  go_enter Tryz.func20, Tryz.ntmps20
  by_cases hbl : 200 < l.length
  · have hr := ifp_pos HANS.out (.inl hbl)
    subst hr
    clear HANS HF2 HLE
    go_wp2_with fail
    go_ret2
    exact solved_err (by decide) (Below.refl _ _)
  by_cases hbm : 200 < m.length
  · have hr := ifp_pos HANS.out (.inr hbm)
    subst hr
    clear HANS HF2 HLE
    go_wp2_with fail
    go_ret2
    exact solved_err (by decide) (Below.refl _ _)
  have HANS1 := Lib.hid (ifp_neg HANS.out (by omega : ¬ (200 < l.length ∨ 200 < m.length))); clear HANS
  go_wp2_with (at_builtin; first | refine wpList_run_append rfl _ _ rfl rfl rfl hap1 ?_ | refine wpList_run_append rfl _ _ rfl rfl rfl hap2 ?_)
  clear hap1 hap2
  go_loopw [7] (fun i wr => ∃ k : Nat, k ≤ L.length ∧ i = .int .i64 k ∧ Hid (errV L = errV (L.drop k)) ∧ Hid (Facts w [.terms L A2 c2] wr)) (fun i _ => L.length - (intOf i).toNat)
  case atStart => exact ⟨0, Nat.zero_le _, rfl, rfl, HF2.out⟩
  case round =>
    clear HF2
    obtain ⟨k, hk, rfl, HE, HF⟩ := hrel
    have i1 : (0 : Int) ≤ (k : Int) := Int.natCast_nonneg _
    by_cases hlt : k < L.length
    · have i2 : (k : Int) < (L.length : Int) := by omega
      rcases HF.out.1.2.2 with h | ⟨kb, off, hA2, hkb, hlp⟩
      · rw [h] at hlt; simp at hlt
      obtain ⟨Ax, cx, a0, a1, a2, a3, hrx⟩ := hlp.get k hlt
      have hst := errV_drop L k hlt
      rw [← HE.out] at hst
      have htz := HSZ.out L[k] (by rw [← HLE.out]; exact List.getElem_mem hlt)
      obtain ⟨x, hx⟩ : ∃ x, x = L[k] := ⟨_, rfl⟩
      rw [← hx] at a0 a1 a2 a3 hrx hst htz
      clear hx
      subst hA2
      have VX := rvalid_any x Ax cx wr htz hrx
      have HFX := Lib.hid HF.out
      clear hlp hrx HF
      obtain ⟨q, hq⟩ : ∃ q, q = x.valid := ⟨_, rfl⟩
      rw [← hq] at VX hst
      simp only [Tm.val] at VX
      have VX := Lib.hid VX
      have HST := Lib.hid hst; clear hst hq
      go_wp2_with fail
      refine VX.out.mono ?_; clear VX a0 a1 a2 a3
      rintro e w3 ⟨rfl, hl3⟩
      have HF3 := Lib.hid (Facts.below hl3.below HFX.out); clear HFX hl3
      rcases eq_facts q 0 with ⟨e0, e1, n1⟩ | ⟨e0, e1, n1⟩
      · have HE2 := Lib.hid (HST.out.trans (if_neg (by simpa using e0))); clear HST HE
        clear e0
        go_wp2_with fail
        go_roundw
        case rel => exact ⟨k + 1, by omega, by go_num, HE2.out, HF3.out⟩
        case measure => simp [intOf]; omega
      · have he := HST.out.trans (if_pos e0)
        have hr := ifp_pos HANS1.out (by rw [← HLE.out, he]; exact e0)
        rw [← HLE.out, he] at hr
        subst hr
        clear HANS1 HST HE he
        go_wp2_with fail
        go_ret2
        exact solved_err e0 (Facts.bel HF3.out)
    · obtain rfl : k = L.length := by omega
      have hE : errV L = 0 := by have := HE.out; rw [List.drop_length] at this; exact this
      have HANS2 := Lib.hid (ifp_neg HANS1.out (by rw [← HLE.out, hE]; simp)); clear HANS1 hE HE
      by_cases hlm : l.length = m.length
      rotate_left
      · have hr := ifp_pos HANS2.out hlm
        subst hr
        clear HANS2
        have e1 : ((l.length : Int) != (m.length : Int)) = true := by rw [bne_iff_ne]; omega
        go_wp2_with fail
        go_ret2
        exact solved_err (by decide) (Facts.bel HF.out)
      obtain ⟨n, hrun⟩ := ifp_neg HANS2.out (by simpa using hlm)
      have e1 : ((l.length : Int) != (m.length : Int)) = false := by rw [bne_eq_false_iff_eq]; omega
      have HRUN := Lib.hid hrun; clear hrun HANS2
      have HB0 := Lib.hid (Facts.bel HF.out); clear HF
      have HLM := Lib.hid hlm; clear hlm
      go_wp2_with fail
      clear e1
      go_loopw [9, 10] (fun v i wr => ∃ (k c0 : Nat) (A0 : Option Addr) (its : List IB), k ≤ l.length ∧ i = .int .i64 k ∧ v = .slice A0 its.length c0 ∧ Hid (its.map IB.bd = (l.zip m).take k) ∧ Hid (Below w.heap.size w wr) ∧ Hid (RowG 57 wr w.heap.size (fun b => b < w.heap.size) (.slice A0 its.length c0) its)) (fun _ i _ => l.length - (intOf i).toNat)
      case atStart => exact ⟨0, 0, none, [], Nat.zero_le _, rfl, rfl, rfl, HB0.out, RowG.nil _ _ _ _⟩
      case round =>
        clear HB0
        obtain ⟨k, c0, A0, its, hk, rfl, rfl, HIT, HB, HROW⟩ := hrel
        have i1 : (0 : Int) ≤ (k : Int) := Int.natCast_nonneg _
        by_cases hlt : k < l.length
        · have hlt2 : k < m.length := by have := HLM.out; omega
          have i2 : (k : Int) < (l.length : Int) := by omega
          have i3 : (k : Int) < (m.length : Int) := by omega
          rcases HRL.out.2.2 with h | ⟨lb, loff, hL0, hlb, hll'⟩
          · rw [h] at hlt; simp at hlt
          rcases HRM.out.2.2 with h | ⟨mb, moff, hM0, hmb, hml'⟩
          · rw [h] at hlt2; simp at hlt2
          subst hL0 hM0
          obtain ⟨D, hD⟩ : ∃ D, D = wr.drew := ⟨_, rfl⟩
          have hBD : Below w.heap.size w D := by rw [hD]; exact HB.out.trans ((Below.refl _ _).drew)
          have hRD : RowG 57 D w.heap.size (fun b => b < w.heap.size) (.slice A0 its.length c0) its := by rw [hD]; exact HROW.out.below (Below.refl _ _).drew
          obtain ⟨Ax, cx, a0, a1, a2, a3, hrx⟩ := (RepLP.mono (fun _ h => h) (fun p hp => hBD.cell hp) _ _ _ hlb hll' : RepLP D (fun b => b < w.heap.size) l lb loff).get k hlt
          obtain ⟨Ay, cy, b0, b1, b2, b3, hry⟩ := (RepLP.mono (fun _ h => h) (fun p hp => hBD.cell hp) _ _ _ hmb hml' : RepLP D (fun b => b < w.heap.size) m mb moff).get k hlt2
          have hnx := zip_take_succ l m k hlt hlt2
          rw [← HIT.out] at hnx
          obtain ⟨x, hx⟩ : ∃ x, x = l[k] := ⟨_, rfl⟩
          obtain ⟨y, hy⟩ : ∃ y, y = m[k] := ⟨_, rfl⟩
          rw [← hx] at a0 a1 a2 a3 hrx hnx
          rw [← hy] at b0 b1 b2 b3 hry hnx
          have HNX := Lib.hid hnx
          have hlen : its.length + 1 ≤ 100000000 := by
            have h := congrArg List.length HIT.out
            rw [List.length_map, List.length_take] at h; omega
          clear hx hy hnx hll' hml' HB HROW
          have own : ∀ k, (Value.slice A0 its.length c0).ownBlock = some k → w.heap.size ≤ k := fun k e => (hRD.lt k e).1
          have hDs := hBD.size
          have low : ∀ b, b < w.heap.size → b < w.heap.size ∧ b < D.heap.size ∧ (Value.slice A0 its.length c0).ownBlock ≠ some b := fun b hb => ⟨hb, by omega, fun e => by have := own b e; omega⟩
          obtain ⟨g, c9, W9, hap, hrow9, hbel9, hk9, hs9, -⟩ := hRD.more1 elemRPair hDs ((x, Ax, cx), (y, Ay, cy)) (RepP.mono low (fun _ _ => rfl) _ _ _ hrx) (RepP.mono low (fun _ _ => rfl) _ _ _ hry) hlen
          have HB9 := Lib.hid (hbel9 _ _ hBD (Nat.le_refl _))
          have HROW9 := Lib.hid hrow9
          dsimp only at hap
          clear hrow9 hbel9 hRD hrx hry low own
          go_wp2_with fail
          refine wp_region_mix4 (fun _ => True) (fun Y => Below w.heap.size w Y) [] (.held 0 (.held 1 (.held 2 (.held 3 (.held 4 (.held 5 (.held 6 (.held 7 (.held 8 (.held 9 (.op 10 (.op 11 (.held 12 .nil))))))))))))) mixed (by kernel_rfl) ?_
          rw [← hD]
          have hBd : Below w.heap.size w D := hBD
          clear hD
          refine mix4_take (v := .slice A0 its.length c0) rfl rfl rfl (fun _ _ _ h => h) trivial hBd (fun Y _ hY => by
            (try simp only [Act.put]); go_simp) ?_
          refine mix4_take (v := .slice (some ⟨lb, loff, none⟩) l.length lc) rfl rfl rfl (fun _ _ _ h => h) trivial hBd (fun Y _ hY => by
            (try simp only [Act.put]); go_simp) ?_
          refine mix4_take (v := .int .i64 k) rfl rfl rfl (fun _ _ _ h => h) trivial hBd (fun Y _ hY => by
            (try simp only [Act.put]); go_simp) ?_
          refine mix4_take (v := .pointer (some ⟨lb, loff + k * 4, none⟩)) rfl rfl rfl (fun _ _ _ h => h) trivial hBd (fun Y _ hY => by
            (try simp only [Act.put]); go_simp) ?_
          refine mix4_take (v := .agg #[.int .i64 x.kind, .string x.name, .int .i64 x.sort, .slice Ax x.kids.length cx]) rfl rfl rfl (fun _ _ _ h => h) trivial hBd (fun Y _ hY => by
            have z0 := ((hY.cell (p := ⟨lb, loff + k * 4, none⟩) hlb).trans (hBd.cell (p := ⟨lb, loff + k * 4, none⟩) hlb).symm).trans a0
            have z1 := ((hY.cell (p := ⟨lb, loff + k * 4 + 1, none⟩) hlb).trans (hBd.cell (p := ⟨lb, loff + k * 4 + 1, none⟩) hlb).symm).trans a1
            have z2 := ((hY.cell (p := ⟨lb, loff + k * 4 + 2, none⟩) hlb).trans (hBd.cell (p := ⟨lb, loff + k * 4 + 2, none⟩) hlb).symm).trans a2
            have z3 := ((hY.cell (p := ⟨lb, loff + k * 4 + 3, none⟩) hlb).trans (hBd.cell (p := ⟨lb, loff + k * 4 + 3, none⟩) hlb).symm).trans a3
            (try simp only [Act.put]); go_simp) ?_
          refine mix4_take (v := .slice (some ⟨mb, moff, none⟩) m.length mc) rfl rfl rfl (fun _ _ _ h => h) trivial hBd (fun Y _ hY => by
            (try simp only [Act.put]); go_simp) ?_
          refine mix4_take (v := .int .i64 k) rfl rfl rfl (fun _ _ _ h => h) trivial hBd (fun Y _ hY => by
            (try simp only [Act.put]); go_simp) ?_
          refine mix4_take (v := .pointer (some ⟨mb, moff + k * 4, none⟩)) rfl rfl rfl (fun _ _ _ h => h) trivial hBd (fun Y _ hY => by
            (try simp only [Act.put]); go_simp) ?_
          refine mix4_take (v := .agg #[.int .i64 y.kind, .string y.name, .int .i64 y.sort, .slice Ay y.kids.length cy]) rfl rfl rfl (fun _ _ _ h => h) trivial hBd (fun Y _ hY => by
            have z0 := ((hY.cell (p := ⟨mb, moff + k * 4, none⟩) hmb).trans (hBd.cell (p := ⟨mb, moff + k * 4, none⟩) hmb).symm).trans b0
            have z1 := ((hY.cell (p := ⟨mb, moff + k * 4 + 1, none⟩) hmb).trans (hBd.cell (p := ⟨mb, moff + k * 4 + 1, none⟩) hmb).symm).trans b1
            have z2 := ((hY.cell (p := ⟨mb, moff + k * 4 + 2, none⟩) hmb).trans (hBd.cell (p := ⟨mb, moff + k * 4 + 2, none⟩) hmb).symm).trans b2
            have z3 := ((hY.cell (p := ⟨mb, moff + k * 4 + 3, none⟩) hmb).trans (hBd.cell (p := ⟨mb, moff + k * 4 + 3, none⟩) hmb).symm).trans b3
            (try simp only [Act.put]); go_simp) ?_
          refine mix4_take (v := .agg #[.int .i64 x.kind, .string x.name, .int .i64 x.sort, .slice Ax x.kids.length cx, .int .i64 y.kind, .string y.name, .int .i64 y.sort, .slice Ay y.kids.length cy]) rfl rfl rfl (fun _ _ _ h => h) trivial hBd (fun Y _ hY => by
            (try simp only [Act.put]); go_simp) ?_
          simp only [Act.put, List.setIfInBounds_toArray]
          clear a0 a1 a2 a3 b0 b1 b2 b3
          refine mix4_op rfl rfl (fun K hK => ?_)
          go_wp2_with fail
          refine ⟨⟨fun _ => trivial, hBd.alloc hDs _⟩, ?_⟩
          refine mix4_op rfl rfl (fun K hK => ?_)
          refine wp_run_append (by rfl) (.tmp 49) (.tmp 59) (by rfl) (by rfl) (by rfl) hap ?_
          have hBd9 : Below w.heap.size w W9 := HB9.out
          refine hK _ _ ⟨⟨fun _ => trivial, hBd9⟩, ?_⟩
          clear hK K hap
          refine mix4_take (v := .slice (some ⟨g, 0, none⟩) (its.length + 1) c9) rfl rfl rfl (fun _ _ _ h => h) trivial hBd9 (fun Y _ _ => by (try simp only [Act.put]); go_simp) ?_
          refine mix4_nil ?_
          clear hBd9 hBd hk9 hs9
          go_wp2_with fail
          go_roundw
          case rel => exact ⟨k + 1, c9, some ⟨g, 0, none⟩, its ++ [((x, Ax, cx), (y, Ay, cy))], by omega, by go_num, by rw [List.length_append]; rfl, by show _ = _; rw [HNX.out, List.map_append]; rfl, HB9.out, by rw [List.length_append]; exact HROW9.out⟩
          case measure => simp [intOf]; omega
        · obtain rfl : k = l.length := by omega
          have hit := HIT.out
          rw [List.take_of_length_le (by rw [List.length_zip]; omega)] at hit
          obtain ⟨A7, c7, hv7, hrep7⟩ := HROW.out.toB (P := fun b => b < wr.heap.size) (fun b _ h _ => h) (fun b h => (HROW.out.lt b h).2)
          injection hv7 with g1 g2 g3
          clear g2
          subst g1 g3
          rw [hit] at hrep7
          have hlz : its.length = (l.zip m).length := by rw [← hit, List.length_map]
          have SO := rsolve_any n (l.zip m) r A0 c0 wr hrep7 HRUN.out
          rw [← hlz] at SO
          have SO := Lib.hid SO
          clear hrep7 hlz hit HIT
          go_wp2_with fail
          refine SO.out.mono ?_; clear SO
          rintro e w9 ⟨A9, c9, rfl, hr9, hb9⟩
          have HR9 := Lib.hid hr9; clear hr9
          have HB9 := Lib.hid (HB.out.trans (hb9.mono HB.out.size)); clear hb9
          go_wp2_with fail
          go_ret2
          exact ⟨A9, c9, rfl, HR9.out, HB9.out⟩
end Go.Proofs.YtmajbopjaejliaaGreatDoor
