/- cast.instance. -/
import Derived.Test.YtpjmdilpldaapaaDoorCinst0
import Derived.OwnWalk
namespace Go.Proofs.YtpjmdilpldaapaaDoor
open Go.RowKit Go.Sort

/-- a new term and a bool -/
def InstOf (r : Tm) (q : Bool) (w : World) (e : Ending) (w' : World) : Prop :=
  ∃ A c, e = .returned (.tuple #[r.val A c, .bool q]) ∧ RepP w' (fun k => w.heap.size ≤ k ∧ k < w'.heap.size) r A c ∧ Below w.heap.size w w'
theorem Tm.inst_mk (suf : ByteArray) (k s : Int) (n : ByteArray) (l : List Tm) : (Tm.mk k n s l).inst suf = .mk k (insN suf k n s) s (l.map (Tm.inst suf)) := by rw [Tm.inst, Tm.insts_eq]
theorem Tm.instOk_mk (suf : ByteArray) (k s : Int) (n : ByteArray) (l : List Tm) : (Tm.mk k n s l).instOk suf = (fitN suf k n s && l.all (Tm.instOk suf)) := by rw [Tm.instOk, Tm.instsOk_eq]
theorem box_name {W : World} {B : Nat} {a b c d u : Value} {T : TypeId} (h : W.heap[B]? = some (.cells #[a, b, c, d] T (0, 0))) : (W.setCell ⟨B, 1, none⟩ u).heap[B]? = some (.cells #[a, u, c, d] T (0, 0)) := by
  simp [World.setCell, Array.getElem?_modify, h]

attribute [local irreducible] wpMix4
set_option maxHeartbeats 4000000 in
set_option maxRecDepth 100000 in
theorem inst_any (suf : ByteArray) (hsuf : suf.size ≤ 100) (n : Nat) : ∀ (t : Tm) (A : Option Addr) (cap : Nat) (w : World), t.size ≤ n → n ≤ 1000000 → t.check = 0 → RepT w w.heap.size t A cap →
    Calls Tryd.prog 55 #[t.val A cap, .string suf] w (InstOf (t.inst suf) (t.instOk suf) w) := by
  have mixed : Tryd.prog.follows .mixedOrders = true := by kernel_rfl
  induction n with
  | zero => intro t _ _ _ h; have := t.size_pos; omega
  | succ n ih =>
    intro t A cap w hn hb hchk hrep
    obtain ⟨tk, tn, ts, l⟩ := t
    obtain ⟨hnm, hkc⟩ := check_parts hchk
    rw [Tm.inst_mk, Tm.instOk_mk]
    rw [Tm.size] at hn
    rw [RepT_mk] at hrep
    obtain ⟨hr1, hr2⟩ := hrep
    have hls := Tm.length_le_sizes l
    obtain ⟨W1, hW1⟩ : ∃ W1, W1 = w.alloc (.cells #[.int .i64 tk, .string tn, .int .i64 ts, .slice A l.length cap] 35) := ⟨_, rfl⟩
    obtain ⟨W2, hW2⟩ : ∃ W2, W2 = W1.alloc (.cells #[.int .i64 0, .string ⟨#[]⟩, .int .i64 0, .slice none 0 0] 35) := ⟨_, rfl⟩
    have s1 : W1.heap.size = w.heap.size + 1 := by rw [hW1]; simp
    have s2 : W2.heap.size = w.heap.size + 1 + 1 := by rw [hW2]; simp [s1]
    have b1 : Below w.heap.size w W1 := by rw [hW1]; exact below1 (Nat.le_refl _) _
    have b2 : Below W1.heap.size W1 W2 := by rw [hW2]; exact below1 (Nat.le_refl _) _
    have hB : Below w.heap.size w W2 := b1.trans (b2.mono (by omega))
    have hx1 : W2.heap[w.heap.size]? = some (.cells #[.int .i64 tk, .string tn, .int .i64 ts, .slice A l.length cap] 35 (0, 0)) := by rw [b2.block _ (by omega), hW1]; exact heap_alloc_new _ _
    have hx2 : W2.heap[w.heap.size + 1]? = some (.cells #[.int .i64 0, .string ⟨#[]⟩, .int .i64 0, .slice none 0 0] 35 (0, 0)) := by rw [hW2, ← s1]; exact heap_alloc_new _ _
    have HW : Hid (W2 = (w.alloc (.cells #[.int .i64 tk, .string tn, .int .i64 ts, .slice A l.length cap] 35)).alloc (.cells #[.int .i64 0, .string ⟨#[]⟩, .int .i64 0, .slice none 0 0] 35)) := by rw [hW2, hW1]; exact rfl
    obtain ⟨r0, r1, r2, r3, rf⟩ := box_at hx1
    have RM := Lib.hid (remains_any tk ts tn A l.length cap W2)
    have HX1 := Lib.hid hx1; clear hx1
    have HX2 := Lib.hid hx2; clear hx2
    have HB := Lib.hid hB; clear hB b1 b2 hW1 hW2 s1
    have IH := Lib.hid ih; clear ih
    have HRL := Lib.hid hr2; clear hr2
    have HKC := Lib.hid hkc; clear hkc
    have HS2 := Lib.hid s2; clear s2
    obtain ⟨nm, hnm2⟩ : ∃ nm, nm = insN suf tk tn ts := ⟨_, rfl⟩
    obtain ⟨ft, hft⟩ : ∃ ft, ft = fitN suf tk tn ts := ⟨_, rfl⟩
    rw [← hnm2, ← hft]
    unfold fitN at hft
    rw [← hnm2] at hft
    unfold insN at hnm2
    have HNM := Lib.hid hnm2; have HFT := Lib.hid hft
    clear hnm2 hft hchk
    simp only [Tm.val, Tm.kind, Tm.name, Tm.sort, Tm.kids] at ⊢
    have hpos : (0 : Int) ≤ (l.length : Int) := Int.natCast_nonneg _
    by_cases hk : tk = 2
    case' pos =>
      have kq : (tk == 2) = true := by rw [beq_iff_eq]; exact hk
      have kn : (tk != 2) = false := by unfold bne; rw [kq]; rfl
      have HK := Lib.hid hk; clear hk
      cases hq : remB tn ts
      case' true =>
        have hnm3 : nm = tn := by rw [HNM.out, if_neg (by rw [hq]; simp)]
        rw [hq] at RM
        clear hq
        go_enter Tryd.func55, Tryd.ntmps55
        go_wp2_with fail
        rw [← HW.out]
        refine RM.out.mono ?_; clear RM r0 r1 r2 r3 rf HW
        rintro e w3 ⟨rfl, hl3⟩
        have hy1 := (hl3.below.block w.heap.size (by have := HS2.out; omega)).trans HX1.out
        have hy2 := (hl3.below.block (w.heap.size + 1) (by have := HS2.out; omega)).trans HX2.out
        have HB3 := Lib.hid (HB.out.trans (hl3.below.mono (by have := HS2.out; omega)))
        have HS3 := Lib.hid hl3.size
        clear HB HX1 HX2 hl3
        have hns : nm.size ≤ 124 := by rw [hnm3]; omega
        rw [← hnm3] at hy1
        have HY1 := Lib.hid hy1; have HY2 := Lib.hid hy2
        have HFT2 : Hid (ft = decide (nm.size ≤ 24)) := by show _ = _; rw [HFT.out, decide_eq_false (fun h => h HK.out)]; rfl
        obtain ⟨r0, r1, r2, r3, rf⟩ := box_at hy1
        clear hy1 hy2 HNM HFT hnm3
        go_wp2_with fail
      case' false =>
        have hnm3 : nm = tn ++ suf := by rw [HNM.out, if_pos ⟨HK.out, hq⟩]
        rw [hq] at RM
        clear hq
        go_enter Tryd.func55, Tryd.ntmps55
        go_wp2_with fail
        rw [← HW.out]
        refine RM.out.mono ?_; clear RM r0 r1 r2 r3 rf HW
        rintro e w3' ⟨rfl, hl3⟩
        have hy1 := (hl3.below.block w.heap.size (by have := HS2.out; omega)).trans HX1.out
        have hy2 := (hl3.below.block (w.heap.size + 1) (by have := HS2.out; omega)).trans HX2.out
        have hb3' := HB.out.trans (hl3.below.mono (by have := HS2.out; omega))
        have hs3' := hl3.size
        have hss : tn.size + suf.size ≤ 124 := by omega
        obtain ⟨r0, r1, r2, r3, rf⟩ := box_at hy1
        have HY1 := Lib.hid hy1; have HY2 := Lib.hid hy2; have HB3 := Lib.hid hb3'; have HS3 := Lib.hid hs3'
        clear HB HX1 HX2 hl3 hy1 hy2 hb3' hs3'
        go_wp2_with fail
        obtain ⟨w3, hw3⟩ : ∃ w3, w3 = w3'.setCell ⟨w.heap.size, 1, none⟩ (.string (tn ++ suf)) := ⟨_, rfl⟩
        rw [← hw3]
        have hs33 : w3.heap.size = w3'.heap.size := by rw [hw3]; simp [World.setCell]
        have hy1 : w3.heap[w.heap.size]? = some (.cells #[.int .i64 tk, .string nm, .int .i64 ts, .slice A l.length cap] 35 (0, 0)) := by rw [hw3, hnm3]; exact box_name HY1.out
        have hy2 : w3.heap[w.heap.size + 1]? = some (.cells #[.int .i64 0, .string ⟨#[]⟩, .int .i64 0, .slice none 0 0] 35 (0, 0)) := by rw [hw3, Below.heap_setCell _ _ _ _ (show w.heap.size + 1 ≠ w.heap.size by omega)]; exact HY2.out
        have hb3 : Below w.heap.size w w3 := by rw [hw3]; exact HB3.out.setCell (Nat.le_refl _) _
        have hns : nm.size ≤ 124 := by rw [hnm3, ByteArray.size_append]; omega
        have hs3 : W2.heap.size ≤ w3.heap.size := by rw [hs33]; exact HS3.out
        have HFT2 : Hid (ft = decide (nm.size ≤ 24)) := by show _ = _; rw [HFT.out, decide_eq_false (fun h => h HK.out)]; rfl
        clear HY1 HY2 HB3 HS3 r0 r1 r2 r3 rf hw3 hs33
        have HY1 := Lib.hid hy1; have HY2 := Lib.hid hy2; have HB3 := Lib.hid hb3; have HS3 := Lib.hid hs3
        obtain ⟨r0, r1, r2, r3, rf⟩ := box_at hy1
        clear hy1 hy2 hb3 hs3 HNM HFT hnm3 hss
      all_goals
        have hf1 : decide ((nm.size : Int) ≤ 24) = ft := by rw [HFT2.out]; by_cases h : nm.size ≤ 24 <;> simp [h] <;> omega
        have hf2 : decide (nm.size ≤ 24) = ft := HFT2.out.symm
        refine wp_region_mix4 (fun _ => True) (fun Y => Below w3.drew.heap.size w3.drew Y) [] (.held 0 (.held 1 (.held 2 (.held 4 (.held 5 (.held 6 (.held 7 (.held 8 (.held 9 (.held 10 (.held 11 (.held 12 (.op 3 (.held 13 (.held 14 .nil))))))))))))))) mixed (by kernel_rfl) ?_
        have HBD : Hid (Below w3.heap.size w3 w3.drew) := Lib.hid ((Below.refl _ _).drew)
        have HSD : Hid (w3.drew.heap.size = w3.heap.size) := Lib.hid rfl
        have d0 : w3.drew.cell? ⟨w.heap.size, 0, none⟩ = some (.int .i64 tk) := r0
        have d1 : w3.drew.cell? ⟨w.heap.size, 1, none⟩ = some (.string nm) := r1
        have d2 : w3.drew.cell? ⟨w.heap.size, 2, none⟩ = some (.int .i64 ts) := r2
        have d3 : w3.drew.cell? ⟨w.heap.size, 3, none⟩ = some (.slice A l.length cap) := r3
        clear r0 r1 r2 r3 rf
        generalize w3.drew = D at *
        refine mix4_take (v := .pointer (some ⟨w.heap.size, 3, none⟩)) rfl rfl rfl (fun _ _ _ h => h) trivial (Below.refl _ _) (fun Y _ hY => by
          (try simp only [Act.put]); go_simp) ?_
        refine mix4_take (v := .slice A l.length cap) rfl rfl rfl (fun _ _ _ h => h) trivial (Below.refl _ _) (fun Y _ hY => by
          have z0 := (hY.cell (World.block_lt d3)).trans d3
          clear d0 d1 d2 d3 hY
          (try simp only [Act.put]); go_simp) ?_
        refine mix4_take (v := .int .i64 l.length) rfl rfl rfl (fun _ _ _ h => h) trivial (Below.refl _ _) (fun Y _ hY => by
          (try simp only [Act.put]); go_simp) ?_
        refine mix4_take (v := .pointer (some ⟨w.heap.size, 0, none⟩)) rfl rfl rfl (fun _ _ _ h => h) trivial (Below.refl _ _) (fun Y _ hY => by
          (try simp only [Act.put]); go_simp) ?_
        (try simp only [Act.put, List.setIfInBounds_toArray, List.set_cons_succ, List.set_cons_zero, List.getElem_toArray, List.getElem_cons_succ, List.getElem_cons_zero])
        refine mix4_take (v := .int .i64 tk) rfl rfl rfl (fun _ _ _ h => h) trivial (Below.refl _ _) (fun Y _ hY => by
          have z0 := (hY.cell (World.block_lt d0)).trans d0
          clear d0 d1 d2 d3 hY
          (try simp only [Act.put]); go_simp) ?_
        refine mix4_take (v := .bool false) rfl rfl rfl (fun _ _ _ h => h) trivial (Below.refl _ _) (fun Y _ hY => by
          (try simp only [Act.put]); go_simp) ?_
        refine mix4_take (v := .bool false) rfl rfl rfl (fun _ _ _ h => h) trivial (Below.refl _ _) (fun Y _ hY => by
          (try simp only [Act.put]); go_simp) ?_
        (try simp only [Act.put, List.setIfInBounds_toArray, List.set_cons_succ, List.set_cons_zero, List.getElem_toArray, List.getElem_cons_succ, List.getElem_cons_zero])
        refine mix5_take_g (v := .pointer (some ⟨w.heap.size, 1, none⟩)) rfl (by kernel_rfl) rfl (fun _ _ _ h => h) trivial (Below.refl _ _) (fun Y _ hY => by
          (try simp only [Act.put]); go_simp) ?_
        (try simp only [Act.put, List.setIfInBounds_toArray, List.set_cons_succ, List.set_cons_zero, List.getElem_toArray, List.getElem_cons_succ, List.getElem_cons_zero])
        refine mix5_take_g (v := .string nm) rfl (by kernel_rfl) rfl (fun _ _ _ h => h) trivial (Below.refl _ _) (fun Y _ hY => by
          have z0 := (hY.cell (World.block_lt d1)).trans d1
          clear d0 d1 d2 d3 hY
          (try simp only [Act.put]); go_simp) ?_
        (try simp only [Act.put, List.setIfInBounds_toArray, List.set_cons_succ, List.set_cons_zero, List.getElem_toArray, List.getElem_cons_succ, List.getElem_cons_zero])
        refine mix5_take_g (v := .int .i64 nm.size) rfl (by kernel_rfl) rfl (fun _ _ _ h => h) trivial (Below.refl _ _) (fun Y _ hY => by
          (try simp only [Act.put]); go_simp) ?_
        (try simp only [Act.put, List.setIfInBounds_toArray, List.set_cons_succ, List.set_cons_zero, List.getElem_toArray, List.getElem_cons_succ, List.getElem_cons_zero])
        refine mix5_take_g (v := .bool ft) rfl (by kernel_rfl) rfl (fun _ _ _ h => h) trivial (Below.refl _ _) (fun Y _ hY => by
          (try simp only [Act.put]); go_simp) ?_
        (try simp only [Act.put, List.setIfInBounds_toArray, List.set_cons_succ, List.set_cons_zero, List.getElem_toArray, List.getElem_cons_succ, List.getElem_cons_zero])
        refine mix4_take (v := .bool ft) rfl rfl rfl (fun _ _ _ h => h) trivial (Below.refl _ _) (fun Y _ hY => by
          (try simp only [Act.put]); go_simp) ?_
        (try simp only [Act.put, List.setIfInBounds_toArray, List.set_cons_succ, List.set_cons_zero, List.getElem_toArray, List.getElem_cons_succ, List.getElem_cons_zero])
        refine mix4_op rfl rfl (fun K hK => ?_)
        refine wp_make_terms (.tmp 27) (.tmp 27) (by rfl) l.length (by rfl) (by rfl) (by omega) ?_
        intro w4 hrow4 hb4
        refine hK _ _ ⟨⟨fun _ => trivial, hb4⟩, ?_⟩
        clear hK K
        have HR4' := Lib.hid hrow4; have HB4' := Lib.hid hb4
        clear hrow4 hb4
        (try simp only [Act.put, List.setIfInBounds_toArray, List.set_cons_succ, List.set_cons_zero, List.getElem_toArray, List.getElem_cons_succ, List.getElem_cons_zero])
        refine mix4_take (v := .slice (some ⟨D.heap.size, 0, none⟩) l.length l.length) rfl rfl rfl (fun _ _ _ h => h) trivial HB4'.out (fun Y _ hY => by
          (try simp only [Act.put]); go_simp) ?_
        (try simp only [Act.put, List.setIfInBounds_toArray, List.set_cons_succ, List.set_cons_zero, List.getElem_toArray, List.getElem_cons_succ, List.getElem_cons_zero])
        refine mix4_take (v := .bool ft) rfl rfl rfl (fun _ _ _ h => h) trivial HB4'.out (fun Y _ hY => by
          (try simp only [Act.put]); go_simp) ?_
        (try simp only [Act.put, List.setIfInBounds_toArray, List.set_cons_succ, List.set_cons_zero, List.getElem_toArray, List.getElem_cons_succ, List.getElem_cons_zero])
        refine mix4_nil ?_
        have HNS : Hid (nm.size ≤ maxLen) := Lib.hid (by unfold maxLen; omega)
        clear hf1 hf2 HFT2 hns
        obtain ⟨g, hg⟩ : ∃ g, g = D.heap.size := ⟨_, rfl⟩
        have HGE := Lib.hid hg
        rw [← hg] at HR4'
        rw [← hg]
        have hgs : W2.heap.size ≤ g := by have := HSD.out; have := HS3.out; omega
        clear hg
        clear HK kq kn
    case' neg =>
      have kq : (tk == 2) = false := by rw [beq_eq_false_iff_ne]; exact hk
      have kn : (tk != 2) = true := by unfold bne; rw [kq]; rfl
      have hnm3 : nm = tn := by rw [HNM.out, if_neg (fun h => hk h.1)]
      have hft : ft = true := by rw [HFT.out, decide_eq_true hk]; rfl
      subst hnm3
      have HFTT := Lib.hid hft; clear hft
      have HNS : Hid (nm.size ≤ maxLen) := Lib.hid hr1
      go_enter Tryd.func55, Tryd.ntmps55
      go_wp2_with fail
      rw [← HW.out]
      clear HW RM HNM HFT
      obtain ⟨w3, hw3⟩ : ∃ w3, w3 = W2 := ⟨_, rfl⟩
      have HS3 : Hid (W2.heap.size ≤ w3.heap.size) := Lib.hid (by rw [hw3]; exact Nat.le_refl _)
      have HY1 : Hid (w3.heap[w.heap.size]? = some (.cells #[.int .i64 tk, .string nm, .int .i64 ts, .slice A l.length cap] 35 (0, 0))) := Lib.hid (by rw [hw3]; exact HX1.out)
      have HY2 : Hid (w3.heap[w.heap.size + 1]? = some (.cells #[.int .i64 0, .string ⟨#[]⟩, .int .i64 0, .slice none 0 0] 35 (0, 0))) := Lib.hid (by rw [hw3]; exact HX2.out)
      have HB3 : Hid (Below w.heap.size w w3) := Lib.hid (by rw [hw3]; exact HB.out)
      rw [← hw3] at r0 r1 r2 r3 rf ⊢
      clear HX1 HX2 HB hw3
      refine wp_region_mix4 (fun _ => True) (fun Y => Below w3.drew.heap.size w3.drew Y) [] (.held 0 (.held 1 (.held 2 (.held 4 (.held 5 (.held 6 (.held 7 (.held 8 (.held 9 (.held 10 (.held 11 (.held 12 (.op 3 (.held 13 (.held 14 .nil))))))))))))))) mixed (by kernel_rfl) ?_
      have HBD : Hid (Below w3.heap.size w3 w3.drew) := Lib.hid ((Below.refl _ _).drew)
      have HSD : Hid (w3.drew.heap.size = w3.heap.size) := Lib.hid rfl
      have d0 : w3.drew.cell? ⟨w.heap.size, 0, none⟩ = some (.int .i64 tk) := r0
      have d1 : w3.drew.cell? ⟨w.heap.size, 1, none⟩ = some (.string nm) := r1
      have d2 : w3.drew.cell? ⟨w.heap.size, 2, none⟩ = some (.int .i64 ts) := r2
      have d3 : w3.drew.cell? ⟨w.heap.size, 3, none⟩ = some (.slice A l.length cap) := r3
      clear r0 r1 r2 r3 rf
      generalize w3.drew = D at *
      refine mix4_take (v := .pointer (some ⟨w.heap.size, 3, none⟩)) rfl rfl rfl (fun _ _ _ h => h) trivial (Below.refl _ _) (fun Y _ hY => by
        (try simp only [Act.put]); go_simp) ?_
      refine mix4_take (v := .slice A l.length cap) rfl rfl rfl (fun _ _ _ h => h) trivial (Below.refl _ _) (fun Y _ hY => by
        have z0 := (hY.cell (World.block_lt d3)).trans d3
        clear d0 d1 d2 d3 hY
        (try simp only [Act.put]); go_simp) ?_
      refine mix4_take (v := .int .i64 l.length) rfl rfl rfl (fun _ _ _ h => h) trivial (Below.refl _ _) (fun Y _ hY => by
        (try simp only [Act.put]); go_simp) ?_
      refine mix4_take (v := .pointer (some ⟨w.heap.size, 0, none⟩)) rfl rfl rfl (fun _ _ _ h => h) trivial (Below.refl _ _) (fun Y _ hY => by
        (try simp only [Act.put]); go_simp) ?_
      (try simp only [Act.put, List.setIfInBounds_toArray, List.set_cons_succ, List.set_cons_zero, List.getElem_toArray, List.getElem_cons_succ, List.getElem_cons_zero])
      refine mix4_take (v := .int .i64 tk) rfl rfl rfl (fun _ _ _ h => h) trivial (Below.refl _ _) (fun Y _ hY => by
        have z0 := (hY.cell (World.block_lt d0)).trans d0
        clear d0 d1 d2 d3 hY
        (try simp only [Act.put]); go_simp) ?_
      refine mix4_take (v := .bool true) rfl rfl rfl (fun _ _ _ h => h) trivial (Below.refl _ _) (fun Y _ hY => by
        (try simp only [Act.put]); go_simp) ?_
      refine mix4_take (v := .bool true) rfl rfl rfl (fun _ _ _ h => h) trivial (Below.refl _ _) (fun Y _ hY => by
        (try simp only [Act.put]); go_simp) ?_
      (try simp only [Act.put, List.setIfInBounds_toArray, List.set_cons_succ, List.set_cons_zero, List.getElem_toArray, List.getElem_cons_succ, List.getElem_cons_zero])
      refine mix5_off rfl (by kernel_rfl) rfl (fun _ _ _ h => h) trivial (Below.refl _ _) ?_
      (try simp only [Act.put, List.setIfInBounds_toArray, List.set_cons_succ, List.set_cons_zero, List.getElem_toArray, List.getElem_cons_succ, List.getElem_cons_zero])
      refine mix5_off rfl (by kernel_rfl) rfl (fun _ _ _ h => h) trivial (Below.refl _ _) ?_
      (try simp only [Act.put, List.setIfInBounds_toArray, List.set_cons_succ, List.set_cons_zero, List.getElem_toArray, List.getElem_cons_succ, List.getElem_cons_zero])
      refine mix5_off rfl (by kernel_rfl) rfl (fun _ _ _ h => h) trivial (Below.refl _ _) ?_
      (try simp only [Act.put, List.setIfInBounds_toArray, List.set_cons_succ, List.set_cons_zero, List.getElem_toArray, List.getElem_cons_succ, List.getElem_cons_zero])
      refine mix5_off rfl (by kernel_rfl) rfl (fun _ _ _ h => h) trivial (Below.refl _ _) ?_
      (try simp only [Act.put, List.setIfInBounds_toArray, List.set_cons_succ, List.set_cons_zero, List.getElem_toArray, List.getElem_cons_succ, List.getElem_cons_zero])
      refine mix4_take (v := .bool true) rfl rfl rfl (fun _ _ _ h => h) trivial (Below.refl _ _) (fun Y _ hY => by
        (try simp only [Act.put]); go_simp) ?_
      (try simp only [Act.put, List.setIfInBounds_toArray, List.set_cons_succ, List.set_cons_zero, List.getElem_toArray, List.getElem_cons_succ, List.getElem_cons_zero])
      refine mix4_op rfl rfl (fun K hK => ?_)
      refine wp_make_terms (.tmp 27) (.tmp 27) (by rfl) l.length (by rfl) (by rfl) (by omega) ?_
      intro w4 hrow4 hb4
      refine hK _ _ ⟨⟨fun _ => trivial, hb4⟩, ?_⟩
      clear hK K
      have HR4' := Lib.hid hrow4; have HB4' := Lib.hid hb4
      clear hrow4 hb4
      (try simp only [Act.put, List.setIfInBounds_toArray, List.set_cons_succ, List.set_cons_zero, List.getElem_toArray, List.getElem_cons_succ, List.getElem_cons_zero])
      refine mix4_take (v := .slice (some ⟨D.heap.size, 0, none⟩) l.length l.length) rfl rfl rfl (fun _ _ _ h => h) trivial HB4'.out (fun Y _ hY => by
        (try simp only [Act.put]); go_simp) ?_
      (try simp only [Act.put, List.setIfInBounds_toArray, List.set_cons_succ, List.set_cons_zero, List.getElem_toArray, List.getElem_cons_succ, List.getElem_cons_zero])
      refine mix4_take (v := .bool true) rfl rfl rfl (fun _ _ _ h => h) trivial HB4'.out (fun Y _ hY => by
        (try simp only [Act.put]); go_simp) ?_
      (try simp only [Act.put, List.setIfInBounds_toArray, List.set_cons_succ, List.set_cons_zero, List.getElem_toArray, List.getElem_cons_succ, List.getElem_cons_zero])
      refine mix4_nil ?_
      obtain ⟨g, hg⟩ : ∃ g, g = D.heap.size := ⟨_, rfl⟩
      have HGE := Lib.hid hg
      rw [← hg] at HR4'
      rw [← hg]
      have hgs : W2.heap.size ≤ g := by have := HSD.out; have := HS3.out; omega
      clear hg
      have hft := HFTT.out
      rw [← hft]
      clear hft kq kn hk
    all_goals
      have hb4 : Below w.heap.size w w4 := HB3.out.trans ((HBD.out.trans (HB4'.out.mono (Nat.le_of_eq HSD.out.symm))).mono HB3.out.size)
      have hy1 : w4.heap[w.heap.size]? = some (.cells #[.int .i64 tk, .string nm, .int .i64 ts, .slice A l.length cap] 35 (0, 0)) := by
        rw [HB4'.out.block _ (by have := HSD.out; have := HS3.out; have := HS2.out; omega), HBD.out.block _ (by have := HS3.out; have := HS2.out; omega)]; exact HY1.out
      have hy2 : w4.heap[w.heap.size + 1]? = some (.cells #[.int .i64 0, .string ⟨#[]⟩, .int .i64 0, .slice none 0 0] 35 (0, 0)) := by
        rw [HB4'.out.block _ (by have := HSD.out; have := HS3.out; have := HS2.out; omega), HBD.out.block _ (by have := HS3.out; have := HS2.out; omega)]; exact HY2.out
      have HZ1 := Lib.hid hy1; have HZ2 := Lib.hid hy2; have HB4 := Lib.hid hb4
      obtain ⟨r0, r1, r2, r3, rf⟩ := box_at hy1
      have hs2 := HS2.out
      clear hb4 hy1 hy2 HY1 HY2 HB3 HS3 HBD HSD HB4' HGE HS2 d0 d1 d2 d3
      have HGS := Lib.hid hgs; clear hgs
      have HSS := Lib.hid hs2; clear hs2
      go_wp2_with fail
      clear r0 r1 r2 r3 rf
      go_loopw [7, 41] (fun q a wr => ∃ (i : Nat) (cur : List It) (p : Bool), a = .int .i64 i ∧ i ≤ l.length ∧ cur.length = l.length ∧ q = .bool p ∧ Hid (p = (ft && (l.take i).all (Tm.instOk suf))) ∧ Hid (RowT wr g (fun k => g ≤ k) (.slice (some ⟨g, 0, none⟩) l.length l.length) cur) ∧
          Hid (∀ j, (h : j < cur.length) → (h' : j < l.length) → j < i → cur[j].1 = l[j].inst suf) ∧ Hid (Below w.heap.size w wr) ∧
          Hid (wr.heap[w.heap.size]? = some (.cells #[.int .i64 tk, .string nm, .int .i64 ts, .slice A l.length cap] 35 (0, 0))) ∧ Hid (wr.heap[w.heap.size + 1]? = some (.cells #[.int .i64 0, .string ⟨#[]⟩, .int .i64 0, .slice none 0 0] 35 (0, 0))))
        (fun _ a _ => l.length - (intOf a).toNat)
      case atStart => exact ⟨0, _, ft, rfl, Nat.zero_le _, by simp, rfl, by simp [Hid], HR4'.out, fun j _ _ h => absurd h (Nat.not_lt_zero j), HB4.out, HZ1.out, HZ2.out⟩
      case round =>
        clear HR4' HB4 HZ1 HZ2
        obtain ⟨i, cur, p, rfl, hi, hcl, rfl, HP, HR, HM, HBW, HT, HC⟩ := hrel
        have hsw := (Array.getElem?_eq_some_iff.1 HC.out).1
        have i1 : (0 : Int) ≤ (i : Int) := Int.natCast_nonneg _
        by_cases hlt : i < l.length
        · have hic : i < cur.length := by omega
          have hgl := HR.out.lt g rfl
          rcases HRL.out.2.2 with h | ⟨kb, off, hA, hkb, hl⟩
          · rw [h] at hlt; simp at hlt
          subst hA
          have hws := HBW.out.size
          have hlr : RepLP wr (fun b => b < w.heap.size) l kb off := RepLP.mono (fun _ h => h) (fun p hp => HBW.out.cell hp) _ _ _ hkb hl
          obtain ⟨Ai, ci, k0, k1, k2, k3, hri⟩ := hlr.get i hlt
          have hsz : l[i].size ≤ n := by have := Tm.sizes_get l i hlt; omega
          have hch := HKC.out l[i] (List.getElem_mem hlt)
          have hpn : (ft && (l.take (i + 1)).all (Tm.instOk suf)) = (p && l[i].instOk suf) := by
            rw [HP.out, List.take_succ_eq_append_getElem hlt, List.all_append, ← Bool.and_assoc]; simp
          obtain ⟨u, hu⟩ : ∃ u, u = l[i] := ⟨_, rfl⟩
          rw [← hu] at k0 k1 k2 k3 hri hsz hch hpn
          have HPN := Lib.hid hpn; clear hpn
          have HU := Lib.hid hu; clear hu
          obtain ⟨X, hX⟩ : ∃ X, X = wr.alloc (.cells #[.int .i64 u.kind, .string u.name, .int .i64 u.sort, .slice Ai u.kids.length ci] 35) := ⟨_, rfl⟩
          have hbX : Below wr.heap.size wr X := by rw [hX]; exact below1 (Nat.le_refl _) _
          have hxb : X.heap[wr.heap.size]? = some (.cells #[.int .i64 u.kind, .string u.name, .int .i64 u.sort, .slice Ai u.kids.length ci] 35 (0, 0)) := by rw [hX]; exact heap_alloc_new _ _
          have CL := Lib.hid (IH.out u Ai ci X hsz (by omega) hch (RepP.mono (fun b h => by have := hbX.size; omega) (fun p hp => hbX.cell (by omega)) _ _ _ hri))
          obtain ⟨e0, e1, e2, e3, -⟩ := box_at hxb
          rw [hX] at e0 e1 e2 e3
          have HX := Lib.hid hX; clear hX
          have HBX := Lib.hid hbX; clear hbX hxb hlr hl hri
          have i2 : (i : Int) < (l.length : Int) := by omega
          simp only [Tm.val] at CL
          go_wp2_with fail
          rw [← HX.out]
          refine CL.out.mono ?_; clear CL k0 k1 k2 k3 e0 e1 e2 e3
          rintro e w5 ⟨A5, c5, rfl, hrep, hbel⟩
          obtain ⟨v, hv⟩ : ∃ v, v = u.inst suf := ⟨_, rfl⟩
          obtain ⟨oq, hoq⟩ : ∃ oq, oq = u.instOk suf := ⟨_, rfl⟩
          rw [← hv] at hrep
          rw [← hv, ← hoq]
          rw [← hoq] at HPN
          have HV := Lib.hid hv; clear hv hoq
          obtain ⟨Y, hY⟩ : ∃ Y, Y = w5.alloc (.cells #[.int .i64 v.kind, .string v.name, .int .i64 v.sort, .slice A5 v.kids.length c5] 35) := ⟨_, rfl⟩
          have hbY : Below w5.heap.size w5 Y := by rw [hY]; exact below1 (Nat.le_refl _) _
          have hyb : Y.heap[w5.heap.size]? = some (.cells #[.int .i64 v.kind, .string v.name, .int .i64 v.sort, .slice A5 v.kids.length c5] 35 (0, 0)) := by rw [hY]; exact heap_alloc_new _ _
          have hb5 : Below wr.heap.size wr Y := (below_then HBX.out hbel HBX.out.size).trans (hbY.mono (by have := HBX.out.size; have := hbel.size; omega))
          have hR5 := HR.out.below hb5
          obtain ⟨m0, m1, m2, m3, m4⟩ := hR5.slot hcl.symm i hic
          have hX5 : RepP Y (fun k => g ≤ k ∧ k < Y.heap.size ∧ g ≠ k) v A5 c5 := RepP.mono (fun k h => by
            have h3 := HBX.out.size; have h4 := hbY.size
            obtain ⟨h1, h2⟩ := h
            exact ⟨by omega, by omega, by omega⟩) (fun q hq => hbY.cell hq.2) _ _ _ hrep
          have hset := hR5.set hcl.symm i (by omega) (v, A5, c5) hX5
          have hBW5 : Below w.heap.size w Y := HBW.out.trans (hb5.mono hws)
          have hT5 := (hb5.block _ (by omega)).trans HT.out
          have hC5 := (hb5.block _ (by omega)).trans HC.out
          obtain ⟨e0, e1, e2, e3, -⟩ := box_at hyb
          have HSE := Lib.hid hset; have HBW5 := Lib.hid hBW5; have HT5 := Lib.hid hT5; have HC5 := Lib.hid hC5
          clear hset hBW5 hT5 hC5 hrep hR5 hbel hb5 HBX hX5 hbY hyb
          generalize cur[i] = old at m0 m1 m2 m3
          rw [hY] at m0 m1 m2 m3 m4 e0 e1 e2 e3
          have HY := Lib.hid hY; clear hY
          simp only [Tm.val]
          cases p
          all_goals
            go_wp2_with fail
            rw [← HY.out]
            go_roundw
            case rel =>
              refine ⟨i + 1, cur.set i (v, A5, c5), _, by go_num, by omega, by rw [List.length_set]; exact hcl, rfl, HPN.out.symm, HSE.out, ?_, ?_, ?_, ?_⟩
              · intro j h h' hj
                have h2 : j < cur.length := by simpa using h
                rw [List.getElem_set]
                by_cases hij : i = j
                · subst hij
                  rw [if_pos rfl]
                  show v = l[i].inst suf
                  rw [HV.out, HU.out]
                · rw [if_neg hij]
                  exact HM.out j h2 h' (by omega)
              · iterate 4 refine Below.setCell ?_ (by show w.heap.size ≤ g; have := HGS.out; have := HSS.out; omega) _
                exact HBW5.out
              · iterate 4 rw [Below.heap_setCell _ _ _ _ (by show w.heap.size ≠ g; have := HGS.out; have := HSS.out; omega)]
                exact HT5.out
              · iterate 4 rw [Below.heap_setCell _ _ _ _ (by show w.heap.size + 1 ≠ g; have := HGS.out; have := HSS.out; omega)]
                exact HC5.out
            case measure => simp [intOf]; omega
        · obtain rfl : i = l.length := by omega
          obtain ⟨t0, t1, t2, t3, tf⟩ := box_at HT.out
          obtain ⟨c0, c1, c2, c3, cf⟩ := box_at HC.out
          have hgl := HR.out.lt g rfl
          obtain ⟨A7, c7, he, hS⟩ := HR.out.toS (P := fun k => g ≤ k ∧ k < wr.heap.size) (fun k h h' => ⟨h, h'⟩) (fun k h h' => ⟨h, h'⟩)
          injection he with he1 he2 he3
          subst he1 he3
          have hmap : cur.map (·.1) = l.map (Tm.inst suf) := by
            refine List.ext_getElem (by simp [hcl]) fun j h1 h2 => ?_
            have hj : j < cur.length := by simpa using h1
            have := HM.out j hj (by omega) (by omega)
            simp [this]
          rw [hmap] at hS
          have hpf : p = (ft && l.all (Tm.instOk suf)) := by have := HP.out; rw [List.take_length] at this; exact this
          have HS := Lib.hid hS; have HPF := Lib.hid hpf
          clear hS he2 hmap hpf HM
          go_wp2_with fail
          refine bodyPost_ret (v := .tuple #[.agg #[.int .i64 tk, .string nm, .int .i64 ts, .slice (some ⟨g, 0, none⟩) l.length l.length], .bool p]) ?_ rfl ?_
          · simp [results, Tryd.results55, go_sem, c0, c1, c2, c3]
          refine ⟨some ⟨g, 0, none⟩, l.length, ?_, ?_, ?_⟩
          · rw [← HPF.out]; simp only [Tm.val, Tm.kind, Tm.name, Tm.sort, Tm.kids, List.length_map]
          · rw [size_put]
            refine RepP.mono (P := fun k => g ≤ k ∧ k < wr.heap.size) (w := wr) (fun k h => ?_) (fun q hq => ?_) _ _ _ ?_
            · have h1 := HGS.out; have h2 := HSS.out
              exact ⟨by omega, by simpa [World.setCell] using h.2⟩
            · have h1 := HGS.out; have h2 := HSS.out
              rw [box_put _ _ _ _ (by omega)]
              exact World.cell?_setCell_other _ _ _ _ (fun e => by rw [← e] at hq; have := hq.1; simp at this; omega)
            · rw [RepP_mk]
              exact ⟨HNS.out, HS.out⟩
          · exact below_put _ _ _ _ (HBW.out.setCell (p := ⟨w.heap.size, 3, none⟩) (Nat.le_refl _) _) (Nat.le_succ _)
end Go.Proofs.YtpjmdilpldaapaaDoor
