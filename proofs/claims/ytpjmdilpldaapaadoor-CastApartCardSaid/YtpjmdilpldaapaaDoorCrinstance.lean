/- The reference's Instance. (Printed by gencinst.py.) -/
import Derived.Test.YtpjmdilpldaapaaDoorCsuff
import Derived.Test.YtpjmdilpldaapaaDoorUrdig
import Derived.Test.YtpjmdilpldaapaaDoorCinstance
namespace Go.Proofs.YtpjmdilpldaapaaDoor
open Go.RowKit Go.Sort

attribute [local irreducible] wpMix4
set_option maxHeartbeats 4000000 in
set_option maxRecDepth 100000 in
theorem rinstance_any (t : Tm) (A : Option Addr) (cap : Nat) (z : Int) (w : World) (hn : t.size ≤ 1000000) (hchk : t.check = 0) (hrep : RepT w w.heap.size t A cap) :
    Calls Tryd.prog 20 #[t.val A cap, .int .i64 z] w (InstR (instT t z) w) := by
  have mixed : Tryd.prog.follows .mixedOrders = true := by kernel_rfl
  obtain ⟨W1, hW1⟩ : ∃ W1, W1 = w.alloc (.cells #[.int .i64 t.kind, .string t.name, .int .i64 t.sort, .slice A t.kids.length cap] 35) := ⟨_, rfl⟩
  obtain ⟨W2, hW2⟩ : ∃ W2, W2 = W1.alloc (.cells #[.int .i64 0, .string ⟨#[]⟩, .int .i64 0, .slice none 0 0] 35) := ⟨_, rfl⟩
  have s1 : W1.heap.size = w.heap.size + 1 := by rw [hW1]; simp
  have s2 : W2.heap.size = w.heap.size + 1 + 1 := by rw [hW2]; simp [s1]
  have b1 : Below w.heap.size w W1 := by rw [hW1]; exact below1 (Nat.le_refl _) _
  have b2 : Below W1.heap.size W1 W2 := by rw [hW2]; exact below1 (Nat.le_refl _) _
  have hB : Below w.heap.size w W2 := b1.trans (b2.mono (by omega))
  have hx1 : W2.heap[w.heap.size]? = some (.cells #[.int .i64 t.kind, .string t.name, .int .i64 t.sort, .slice A t.kids.length cap] 35 (0, 0)) := by rw [b2.block _ (by omega), hW1]; exact heap_alloc_new _ _
  have hx2 : W2.heap[w.heap.size + 1]? = some (.cells #[.int .i64 0, .string ⟨#[]⟩, .int .i64 0, .slice none 0 0] 35 (0, 0)) := by rw [hW2, ← s1]; exact heap_alloc_new _ _
  have HW : Hid (W2 = (w.alloc (.cells #[.int .i64 t.kind, .string t.name, .int .i64 t.sort, .slice A t.kids.length cap] 35)).alloc (.cells #[.int .i64 0, .string ⟨#[]⟩, .int .i64 0, .slice none 0 0] 35)) := by rw [hW2, hW1]; exact rfl
  obtain ⟨r0, r1, r2, r3, -⟩ := box_at hx1
  obtain ⟨c0, c1, c2, c3, cf⟩ := box_at hx2
  have HX1 := Lib.hid hx1; have HX2 := Lib.hid hx2; have HB := Lib.hid hB; have HS2 := Lib.hid s2
  have HREP := Lib.hid (hrep.go hB hB.size)
  have HREPW := Lib.hid hrep
  clear hx1 hx2 hB s2 b1 b2 hW1 hW2 s1 hrep
  simp only [Tm.val]
  obtain ⟨RR, hRR⟩ : ∃ RR, RR = instT t z := ⟨_, rfl⟩
  rw [← hRR]
  unfold instT at hRR
  have HRR0 := Lib.hid hRR; clear hRR
  by_cases hz1 : z < 0
  · have hRR : RR = t := by rw [HRR0.out, if_pos (Or.inl hz1)]
    subst hRR
    clear HRR0
    go_enter Tryd.func20, Tryd.ntmps20
    go_wp2_with fail
    refine bodyPost_ret (v := RR.val A cap) ?_ rfl ?_
    · simp [results, Tryd.results20, go_sem, Tm.val]
    have hbb : Below w.heap.size w ((w.alloc (.cells #[.int .i64 RR.kind, .string RR.name, .int .i64 RR.sort, .slice A RR.kids.length cap] 35)).alloc (.cells #[.int .i64 RR.kind, .string RR.name, .int .i64 RR.sort, .slice A RR.kids.length cap] 35)) := (below1 (Nat.le_refl _) _).alloc (by simp) _
    exact ⟨A, cap, rfl, RepP.mono (fun k (h : k < w.heap.size) => by simp; omega) (fun q hq => hbb.cell hq) _ _ _ HREPW.out, hbb⟩
  by_cases hz2 : 99 < z
  · have hRR : RR = t := by rw [HRR0.out, if_pos (Or.inr hz2)]
    subst hRR
    clear HRR0
    go_enter Tryd.func20, Tryd.ntmps20
    go_wp2_with fail
    refine bodyPost_ret (v := RR.val A cap) ?_ rfl ?_
    · simp [results, Tryd.results20, go_sem, Tm.val]
    have hbb : Below w.heap.size w ((w.alloc (.cells #[.int .i64 RR.kind, .string RR.name, .int .i64 RR.sort, .slice A RR.kids.length cap] 35)).alloc (.cells #[.int .i64 RR.kind, .string RR.name, .int .i64 RR.sort, .slice A RR.kids.length cap] 35)) := (below1 (Nat.le_refl _) _).alloc (by simp) _
    exact ⟨A, cap, rfl, RepP.mono (fun k (h : k < w.heap.size) => by simp; omega) (fun q hq => hbb.cell hq) _ _ _ HREPW.out, hbb⟩
  obtain ⟨m, rfl⟩ : ∃ m : Nat, z = (m : Int) := ⟨z.toNat, by omega⟩
  have hm : m < 100 := by omega
  have HRR1 : Hid (RR = if t.instOk (sufOf m) = true then t.inst (sufOf m) else t) := by show _ = _; rw [HRR0.out, if_neg (by omega), Int.toNat_natCast]
  clear HRR0
  obtain ⟨sf, hsf⟩ : ∃ sf, sf = sufOf m := ⟨_, rfl⟩
  obtain ⟨ds, hds⟩ : ∃ ds : ByteArray, ds = ⟨(Lib.decDigits m).toArray⟩ := ⟨_, rfl⟩
  have hds2 : ds.size ≤ 2 := by
    rw [hds]
    show (Lib.decDigits m).toArray.size ≤ 2
    by_cases h10 : m < 10
    · rw [Lib.decDigits_one h10]; exact Nat.le_succ _
    · rw [Lib.decDigits_two h10 hm]; exact Nat.le_refl _
  have hst : (⟨#[35]⟩ : ByteArray) ++ ds = sf := by rw [hsf, hds]; rfl
  have hsfs : sf.size ≤ 100 := by rw [← hst, ByteArray.size_append]; have : (⟨#[35]⟩ : ByteArray).size = 1 := rfl; omega
  have hone : (⟨#[35]⟩ : ByteArray).size = 1 := rfl
  have hcc : (⟨#[35]⟩ : ByteArray).size + ds.size ≤ 100 := by omega
  have hcc2 : 1 + ds.size ≤ 9223372036854775807 := by omega
  rw [← hsf] at HRR1
  obtain ⟨r, hr⟩ : ∃ r, r = t.inst sf := ⟨_, rfl⟩
  obtain ⟨q, hq⟩ : ∃ q, q = t.instOk sf := ⟨_, rfl⟩
  have HRR2 : Hid (RR = if q = true then r else t) := by show _ = _; rw [HRR1.out, hr, hq]
  have HST := Lib.hid hst
  go_enter Tryd.func20, Tryd.ntmps20
  go_wp2_with fail
  rw [← HW.out]
  refine wp_region_mix4 (fun _ => True) (fun Y => Below W2.drew.heap.size W2.drew Y) [] (.held 0 (.held 1 (.two 2 8 (.held 3 (.two 4 8 (.held 5 (.held 6 (.held 7 (.op 8 (.op 9 (.held 10 .nil)))))) (.op 4 (.held 5 (.held 6 (.held 7 (.op 9 (.held 10 .nil)))))))) (.op 2 (.held 3 (.op 4 (.held 5 (.held 6 (.held 7 (.op 9 (.held 10 .nil))))))))))) mixed (by kernel_rfl) ?_
  have HBD : Hid (Below W2.heap.size W2 W2.drew) := Lib.hid ((Below.refl _ _).drew)
  have HSD0 : Hid (W2.drew.heap.size = W2.heap.size) := Lib.hid rfl
  have HSD : Hid (w.heap.size + 1 + 1 ≤ W2.drew.heap.size) := Lib.hid (by rw [HSD0.out, HS2.out]; exact Nat.le_refl _)
  have d0 : W2.drew.cell? ⟨w.heap.size, 0, none⟩ = some (.int .i64 t.kind) := r0
  have d1 : W2.drew.cell? ⟨w.heap.size, 1, none⟩ = some (.string t.name) := r1
  have d2 : W2.drew.cell? ⟨w.heap.size, 2, none⟩ = some (.int .i64 t.sort) := r2
  have d3 : W2.drew.cell? ⟨w.heap.size, 3, none⟩ = some (.slice A t.kids.length cap) := r3
  have DG : Hid (∀ X, Below W2.drew.heap.size W2.drew X → Calls Tryd.prog 58 #[.int .i64 m] X fun e w' => e = .returned (.string ds) ∧ Below X.heap.size X w') := Lib.hid fun X _ => by
    rw [hds]
    exact rdigits_any m (by omega) X
  have IN : Hid (∀ X, Below W2.drew.heap.size W2.drew X → Calls Tryd.prog 57 #[.agg #[.int .i64 t.kind, .string t.name, .int .i64 t.sort, .slice A t.kids.length cap], .string sf] X (InstOf r q X)) := Lib.hid fun X hX => by
    rw [hr, hq]
    exact suff_any sf hsfs 1000000 t A cap X hn (Nat.le_refl _) hchk (HREPW.out.go (HB.out.trans ((HBD.out.trans (hX.mono (Nat.le_of_eq HSD0.out.symm))).mono HB.out.size)) (by have := hX.size; have := HSD.out; omega))
  have HRS : Hid (r.size = t.size) := Lib.hid (by rw [hr]; exact Tm.inst_size _ _)
  clear r0 r1 r2 r3 c0 c1 c2 c3 cf hr hq hds hst hsf hone HRR1 HREP
  generalize W2.drew = D at *
  refine mix4_take (v := .agg #[.int .i64 t.kind, .string t.name, .int .i64 t.sort, .slice A t.kids.length cap]) rfl rfl rfl (fun _ _ _ h => h) trivial (Below.refl D.heap.size D) (fun Y _ hY => by
    have z0 := (hY.cell (World.block_lt d0)).trans d0
    have z1 := (hY.cell (World.block_lt d1)).trans d1
    have z2 := (hY.cell (World.block_lt d2)).trans d2
    have z3 := (hY.cell (World.block_lt d3)).trans d3
    clear d0 d1 d2 d3 hY
    (try simp only [Act.put]); go_simp) ?_
  refine mix4_take (v := .int .i64 m) rfl rfl rfl (fun _ _ _ h => h) trivial (Below.refl D.heap.size D) (fun Y _ hY => by
    (try simp only [Act.put]); go_simp) ?_
  (try simp only [Act.put, List.setIfInBounds_toArray, List.set_cons_succ, List.set_cons_zero, List.getElem_toArray, List.getElem_cons_succ, List.getElem_cons_zero])
  refine mix4_two ?_ ?_
  case' refine_1 =>
    refine mix4_op rfl rfl (fun K hK => ?_)
    go_wp2_with fail
    refine (DG.out D (Below.refl D.heap.size D)).mono ?_
    rintro e y1 ⟨rfl, hk1⟩
    have HB1 := Lib.hid (Below.trans (Below.refl D.heap.size D) (hk1.mono (Below.size (Below.refl D.heap.size D))))
    refine hK _ _ ⟨⟨fun _ => trivial, HB1.out⟩, ?_⟩
    clear hK K
    clear hk1
    (try simp only [Act.put, List.setIfInBounds_toArray, List.set_cons_succ, List.set_cons_zero, List.getElem_toArray, List.getElem_cons_succ, List.getElem_cons_zero])
    refine mix4_take (v := .string sf) rfl rfl rfl (fun _ _ _ h => h) trivial HB1.out (fun Y _ hY => by
      have hst := HST.out
      (try simp only [Act.put]); go_simp) ?_
    (try simp only [Act.put, List.setIfInBounds_toArray, List.set_cons_succ, List.set_cons_zero, List.getElem_toArray, List.getElem_cons_succ, List.getElem_cons_zero])
    refine mix4_two ?_ ?_
    case' refine_1 =>
      have HIN := Lib.hid (IN.out y1 HB1.out)
      refine mix4_op rfl rfl (fun K hK => ?_)
      go_wp2_with fail
      refine HIN.out.mono ?_; clear HIN
      rintro e y2 ⟨A2, c2, rfl, hr2, hk2⟩
      have HB2 := Lib.hid (Below.trans HB1.out (hk2.mono (Below.size HB1.out)))
      refine hK _ _ ⟨⟨fun _ => trivial, HB2.out⟩, ?_⟩
      have HR0 := Lib.hid (RepP.mono (P' := fun k => w.heap.size + 1 < k ∧ k < y2.heap.size) (fun k h => ⟨by have := HSD.out; have := (Below.size HB1.out); omega, h.2⟩) (fun _ _ => rfl) _ _ _ hr2)
      clear hK K hr2 hk2
      (try simp only [Tm.val])
      (try simp only [Act.put, List.setIfInBounds_toArray, List.set_cons_succ, List.set_cons_zero, List.getElem_toArray, List.getElem_cons_succ, List.getElem_cons_zero])
      refine mix4_take (v := .tuple #[.agg #[.int .i64 r.kind, .string r.name, .int .i64 r.sort, .slice A2 r.kids.length c2], .bool q]) rfl rfl rfl (fun _ _ _ h => h) trivial HB2.out (fun Y _ hY => by
        (try simp only [Act.put]); go_simp) ?_
      (try simp only [Act.put, List.setIfInBounds_toArray, List.set_cons_succ, List.set_cons_zero, List.getElem_toArray, List.getElem_cons_succ, List.getElem_cons_zero])
      refine mix4_take (v := .agg #[.int .i64 r.kind, .string r.name, .int .i64 r.sort, .slice A2 r.kids.length c2]) rfl rfl rfl (fun _ _ _ h => h) trivial HB2.out (fun Y _ hY => by
        (try simp only [Act.put]); go_simp) ?_
      refine mix4_take (v := .bool q) rfl rfl rfl (fun _ _ _ h => h) trivial HB2.out (fun Y _ hY => by
        (try simp only [Act.put]); go_simp) ?_
      (try simp only [Act.put, List.setIfInBounds_toArray, List.set_cons_succ, List.set_cons_zero, List.getElem_toArray, List.getElem_cons_succ, List.getElem_cons_zero])
      refine mix4_op rfl rfl (fun K hK => ?_)
      go_wp2_with fail
      obtain ⟨y3, hw3⟩ : ∃ Z, Z = y2.alloc (.cells #[.int .i64 0, .string ⟨#[]⟩, .int .i64 0, .slice none 0 0] 35) := ⟨_, rfl⟩
      rw [← hw3]
      have hk3 : Below y2.heap.size y2 y3 := by rw [hw3]; exact below1 (Nat.le_refl _) _
      have HP3 : Hid (y3.heap[y2.heap.size]? = some (.cells #[.int .i64 0, .string ⟨#[]⟩, .int .i64 0, .slice none 0 0] 35 (0, 0))) := Lib.hid (by rw [hw3]; exact heap_alloc_new _ _)
      have HB3 := Lib.hid (Below.trans HB2.out (hk3.mono (Below.size HB2.out)))
      refine ⟨⟨fun _ => trivial, HB3.out⟩, ?_⟩
      have HRR := Lib.hid (RepP.mono (P' := fun k => k ≠ y2.heap.size ∧ w.heap.size + 1 < k ∧ k < y3.heap.size) (fun k h => ⟨by omega, h.1, by have := hk3.size; omega⟩) (fun q hq => hk3.cell hq.2) _ _ _ HR0.out)
      clear hw3 hk3
      (try simp only [Act.put, List.setIfInBounds_toArray, List.set_cons_succ, List.set_cons_zero, List.getElem_toArray, List.getElem_cons_succ, List.getElem_cons_zero])
      obtain ⟨d0', d1', d2', d3', df'⟩ := box_at HP3.out
      refine mix4_op rfl rfl (fun K hK => ?_)
      go_wp2_with fail
      obtain ⟨ZZ, hZZ⟩ : ∃ ZZ, ZZ = ((((y3.setCell ⟨y2.heap.size, 0, none⟩ (.int .i64 r.kind)).setCell ⟨y2.heap.size, 1, none⟩ (.string r.name)).setCell ⟨y2.heap.size, 2, none⟩ (.int .i64 r.sort)).setCell ⟨y2.heap.size, 3, none⟩ (.slice A2 r.kids.length c2)) := ⟨_, rfl⟩
      rw [← hZZ]
      have hPD : D.heap.size ≤ y2.heap.size := (Below.size HB2.out)
      have hbz : Below D.heap.size D ZZ := by rw [hZZ]; exact below_put _ _ _ _ HB3.out hPD
      refine ⟨⟨fun _ => trivial, hbz⟩, ?_⟩
      have HPZ : Hid (ZZ.heap[y2.heap.size]? = some (.cells #[.int .i64 r.kind, .string r.name, .int .i64 r.sort, .slice A2 r.kids.length c2] 35 (0, 0))) := Lib.hid (by rw [hZZ]; exact heap_put4 HP3.out)
      have HRZ := Lib.hid (RepP.mono (w' := ZZ) (P' := fun k => k ≠ y2.heap.size ∧ w.heap.size + 1 < k ∧ k < ZZ.heap.size) (fun k h => by rw [hZZ, size_put]; exact h) (fun q hq => by rw [hZZ]; exact box_put _ _ _ _ hq.1) _ _ _ HRR.out)
      have HBZ := Lib.hid hbz
      clear hbz hZZ d0' d1' d2' d3' df' HRR
      (try simp only [Act.put, List.setIfInBounds_toArray, List.set_cons_succ, List.set_cons_zero, List.getElem_toArray, List.getElem_cons_succ, List.getElem_cons_zero])
      refine mix4_take (v := .bool q) rfl rfl rfl (fun _ _ _ h => h) trivial HBZ.out (fun Y _ hY => by (try simp only [Act.put]); go_simp) ?_
      (try simp only [Act.put, List.setIfInBounds_toArray, List.set_cons_succ, List.set_cons_zero, List.getElem_toArray, List.getElem_cons_succ, List.getElem_cons_zero])
      refine mix4_nil ?_
      obtain ⟨PP, hPP⟩ : ∃ PP, PP = y2.heap.size := ⟨_, rfl⟩
      rw [← hPP] at HPZ HRZ hPD
      rw [← hPP]
      clear hPP
    case' refine_2 =>
      refine mix4_op rfl rfl (fun K hK => ?_)
      go_wp2_with fail
      obtain ⟨y2, hw2⟩ : ∃ Z, Z = y1.alloc (.cells #[.int .i64 0, .string ⟨#[]⟩, .int .i64 0, .slice none 0 0] 35) := ⟨_, rfl⟩
      rw [← hw2]
      have hk2 : Below y1.heap.size y1 y2 := by rw [hw2]; exact below1 (Nat.le_refl _) _
      have HP2 : Hid (y2.heap[y1.heap.size]? = some (.cells #[.int .i64 0, .string ⟨#[]⟩, .int .i64 0, .slice none 0 0] 35 (0, 0))) := Lib.hid (by rw [hw2]; exact heap_alloc_new _ _)
      have HB2 := Lib.hid (Below.trans HB1.out (hk2.mono (Below.size HB1.out)))
      refine ⟨⟨fun _ => trivial, HB2.out⟩, ?_⟩
      clear hw2 hk2
      (try simp only [Act.put, List.setIfInBounds_toArray, List.set_cons_succ, List.set_cons_zero, List.getElem_toArray, List.getElem_cons_succ, List.getElem_cons_zero])
      have HIN := Lib.hid (IN.out y2 HB2.out)
      refine mix4_op rfl rfl (fun K hK => ?_)
      go_wp2_with fail
      refine HIN.out.mono ?_; clear HIN
      rintro e y3 ⟨A2, c2, rfl, hr3, hk3⟩
      have HB3 := Lib.hid (Below.trans HB2.out (hk3.mono (Below.size HB2.out)))
      refine hK _ _ ⟨⟨fun _ => trivial, HB3.out⟩, ?_⟩
      have HRR := Lib.hid (RepP.mono (P' := fun k => k ≠ y1.heap.size ∧ w.heap.size + 1 < k ∧ k < y3.heap.size) (fun k h => ⟨by have := (Array.getElem?_eq_some_iff.1 HP2.out).1; omega, by have := HSD.out; have := (Below.size HB2.out); omega, h.2⟩) (fun _ _ => rfl) _ _ _ hr3)
      have HP3 := Lib.hid ((hk3.block _ (Array.getElem?_eq_some_iff.1 HP2.out).1).trans HP2.out)
      clear hK K hr3 hk3
      (try simp only [Tm.val])
      (try simp only [Act.put, List.setIfInBounds_toArray, List.set_cons_succ, List.set_cons_zero, List.getElem_toArray, List.getElem_cons_succ, List.getElem_cons_zero])
      refine mix4_take (v := .tuple #[.agg #[.int .i64 r.kind, .string r.name, .int .i64 r.sort, .slice A2 r.kids.length c2], .bool q]) rfl rfl rfl (fun _ _ _ h => h) trivial HB3.out (fun Y _ hY => by
        (try simp only [Act.put]); go_simp) ?_
      (try simp only [Act.put, List.setIfInBounds_toArray, List.set_cons_succ, List.set_cons_zero, List.getElem_toArray, List.getElem_cons_succ, List.getElem_cons_zero])
      refine mix4_take (v := .agg #[.int .i64 r.kind, .string r.name, .int .i64 r.sort, .slice A2 r.kids.length c2]) rfl rfl rfl (fun _ _ _ h => h) trivial HB3.out (fun Y _ hY => by
        (try simp only [Act.put]); go_simp) ?_
      refine mix4_take (v := .bool q) rfl rfl rfl (fun _ _ _ h => h) trivial HB3.out (fun Y _ hY => by
        (try simp only [Act.put]); go_simp) ?_
      (try simp only [Act.put, List.setIfInBounds_toArray, List.set_cons_succ, List.set_cons_zero, List.getElem_toArray, List.getElem_cons_succ, List.getElem_cons_zero])
      obtain ⟨d0', d1', d2', d3', df'⟩ := box_at HP3.out
      refine mix4_op rfl rfl (fun K hK => ?_)
      go_wp2_with fail
      obtain ⟨ZZ, hZZ⟩ : ∃ ZZ, ZZ = ((((y3.setCell ⟨y1.heap.size, 0, none⟩ (.int .i64 r.kind)).setCell ⟨y1.heap.size, 1, none⟩ (.string r.name)).setCell ⟨y1.heap.size, 2, none⟩ (.int .i64 r.sort)).setCell ⟨y1.heap.size, 3, none⟩ (.slice A2 r.kids.length c2)) := ⟨_, rfl⟩
      rw [← hZZ]
      have hPD : D.heap.size ≤ y1.heap.size := (Below.size HB1.out)
      have hbz : Below D.heap.size D ZZ := by rw [hZZ]; exact below_put _ _ _ _ HB3.out hPD
      refine ⟨⟨fun _ => trivial, hbz⟩, ?_⟩
      have HPZ : Hid (ZZ.heap[y1.heap.size]? = some (.cells #[.int .i64 r.kind, .string r.name, .int .i64 r.sort, .slice A2 r.kids.length c2] 35 (0, 0))) := Lib.hid (by rw [hZZ]; exact heap_put4 HP3.out)
      have HRZ := Lib.hid (RepP.mono (w' := ZZ) (P' := fun k => k ≠ y1.heap.size ∧ w.heap.size + 1 < k ∧ k < ZZ.heap.size) (fun k h => by rw [hZZ, size_put]; exact h) (fun q hq => by rw [hZZ]; exact box_put _ _ _ _ hq.1) _ _ _ HRR.out)
      have HBZ := Lib.hid hbz
      clear hbz hZZ d0' d1' d2' d3' df' HRR
      (try simp only [Act.put, List.setIfInBounds_toArray, List.set_cons_succ, List.set_cons_zero, List.getElem_toArray, List.getElem_cons_succ, List.getElem_cons_zero])
      refine mix4_take (v := .bool q) rfl rfl rfl (fun _ _ _ h => h) trivial HBZ.out (fun Y _ hY => by (try simp only [Act.put]); go_simp) ?_
      (try simp only [Act.put, List.setIfInBounds_toArray, List.set_cons_succ, List.set_cons_zero, List.getElem_toArray, List.getElem_cons_succ, List.getElem_cons_zero])
      refine mix4_nil ?_
      obtain ⟨PP, hPP⟩ : ∃ PP, PP = y1.heap.size := ⟨_, rfl⟩
      rw [← hPP] at HPZ HRZ hPD
      rw [← hPP]
      clear hPP
  case' refine_2 =>
    refine mix4_op rfl rfl (fun K hK => ?_)
    go_wp2_with fail
    obtain ⟨y1, hw1⟩ : ∃ Z, Z = D.alloc (.cells #[.int .i64 0, .string ⟨#[]⟩, .int .i64 0, .slice none 0 0] 35) := ⟨_, rfl⟩
    rw [← hw1]
    have hk1 : Below D.heap.size D y1 := by rw [hw1]; exact below1 (Nat.le_refl _) _
    have HP1 : Hid (y1.heap[D.heap.size]? = some (.cells #[.int .i64 0, .string ⟨#[]⟩, .int .i64 0, .slice none 0 0] 35 (0, 0))) := Lib.hid (by rw [hw1]; exact heap_alloc_new _ _)
    have HB1 := Lib.hid (Below.trans (Below.refl D.heap.size D) (hk1.mono (Below.size (Below.refl D.heap.size D))))
    refine ⟨⟨fun _ => trivial, HB1.out⟩, ?_⟩
    clear hw1 hk1
    (try simp only [Act.put, List.setIfInBounds_toArray, List.set_cons_succ, List.set_cons_zero, List.getElem_toArray, List.getElem_cons_succ, List.getElem_cons_zero])
    refine mix4_op rfl rfl (fun K hK => ?_)
    go_wp2_with fail
    refine (DG.out y1 HB1.out).mono ?_
    rintro e y2 ⟨rfl, hk2⟩
    have HB2 := Lib.hid (Below.trans HB1.out (hk2.mono (Below.size HB1.out)))
    refine hK _ _ ⟨⟨fun _ => trivial, HB2.out⟩, ?_⟩
    clear hK K
    have HP2 := Lib.hid ((hk2.block _ (Array.getElem?_eq_some_iff.1 HP1.out).1).trans HP1.out)
    clear hk2
    (try simp only [Act.put, List.setIfInBounds_toArray, List.set_cons_succ, List.set_cons_zero, List.getElem_toArray, List.getElem_cons_succ, List.getElem_cons_zero])
    refine mix4_take (v := .string sf) rfl rfl rfl (fun _ _ _ h => h) trivial HB2.out (fun Y _ hY => by
      have hst := HST.out
      (try simp only [Act.put]); go_simp) ?_
    (try simp only [Act.put, List.setIfInBounds_toArray, List.set_cons_succ, List.set_cons_zero, List.getElem_toArray, List.getElem_cons_succ, List.getElem_cons_zero])
    have HIN := Lib.hid (IN.out y2 HB2.out)
    refine mix4_op rfl rfl (fun K hK => ?_)
    go_wp2_with fail
    refine HIN.out.mono ?_; clear HIN
    rintro e y3 ⟨A2, c2, rfl, hr3, hk3⟩
    have HB3 := Lib.hid (Below.trans HB2.out (hk3.mono (Below.size HB2.out)))
    refine hK _ _ ⟨⟨fun _ => trivial, HB3.out⟩, ?_⟩
    have HRR := Lib.hid (RepP.mono (P' := fun k => k ≠ D.heap.size ∧ w.heap.size + 1 < k ∧ k < y3.heap.size) (fun k h => ⟨by have := (Array.getElem?_eq_some_iff.1 HP2.out).1; omega, by have := HSD.out; have := (Below.size HB2.out); omega, h.2⟩) (fun _ _ => rfl) _ _ _ hr3)
    have HP3 := Lib.hid ((hk3.block _ (Array.getElem?_eq_some_iff.1 HP2.out).1).trans HP2.out)
    clear hK K hr3 hk3
    (try simp only [Tm.val])
    (try simp only [Act.put, List.setIfInBounds_toArray, List.set_cons_succ, List.set_cons_zero, List.getElem_toArray, List.getElem_cons_succ, List.getElem_cons_zero])
    refine mix4_take (v := .tuple #[.agg #[.int .i64 r.kind, .string r.name, .int .i64 r.sort, .slice A2 r.kids.length c2], .bool q]) rfl rfl rfl (fun _ _ _ h => h) trivial HB3.out (fun Y _ hY => by
      (try simp only [Act.put]); go_simp) ?_
    (try simp only [Act.put, List.setIfInBounds_toArray, List.set_cons_succ, List.set_cons_zero, List.getElem_toArray, List.getElem_cons_succ, List.getElem_cons_zero])
    refine mix4_take (v := .agg #[.int .i64 r.kind, .string r.name, .int .i64 r.sort, .slice A2 r.kids.length c2]) rfl rfl rfl (fun _ _ _ h => h) trivial HB3.out (fun Y _ hY => by
      (try simp only [Act.put]); go_simp) ?_
    refine mix4_take (v := .bool q) rfl rfl rfl (fun _ _ _ h => h) trivial HB3.out (fun Y _ hY => by
      (try simp only [Act.put]); go_simp) ?_
    (try simp only [Act.put, List.setIfInBounds_toArray, List.set_cons_succ, List.set_cons_zero, List.getElem_toArray, List.getElem_cons_succ, List.getElem_cons_zero])
    obtain ⟨d0', d1', d2', d3', df'⟩ := box_at HP3.out
    refine mix4_op rfl rfl (fun K hK => ?_)
    go_wp2_with fail
    obtain ⟨ZZ, hZZ⟩ : ∃ ZZ, ZZ = ((((y3.setCell ⟨D.heap.size, 0, none⟩ (.int .i64 r.kind)).setCell ⟨D.heap.size, 1, none⟩ (.string r.name)).setCell ⟨D.heap.size, 2, none⟩ (.int .i64 r.sort)).setCell ⟨D.heap.size, 3, none⟩ (.slice A2 r.kids.length c2)) := ⟨_, rfl⟩
    rw [← hZZ]
    have hPD : D.heap.size ≤ D.heap.size := (Below.size (Below.refl D.heap.size D))
    have hbz : Below D.heap.size D ZZ := by rw [hZZ]; exact below_put _ _ _ _ HB3.out hPD
    refine ⟨⟨fun _ => trivial, hbz⟩, ?_⟩
    have HPZ : Hid (ZZ.heap[D.heap.size]? = some (.cells #[.int .i64 r.kind, .string r.name, .int .i64 r.sort, .slice A2 r.kids.length c2] 35 (0, 0))) := Lib.hid (by rw [hZZ]; exact heap_put4 HP3.out)
    have HRZ := Lib.hid (RepP.mono (w' := ZZ) (P' := fun k => k ≠ D.heap.size ∧ w.heap.size + 1 < k ∧ k < ZZ.heap.size) (fun k h => by rw [hZZ, size_put]; exact h) (fun q hq => by rw [hZZ]; exact box_put _ _ _ _ hq.1) _ _ _ HRR.out)
    have HBZ := Lib.hid hbz
    clear hbz hZZ d0' d1' d2' d3' df' HRR
    (try simp only [Act.put, List.setIfInBounds_toArray, List.set_cons_succ, List.set_cons_zero, List.getElem_toArray, List.getElem_cons_succ, List.getElem_cons_zero])
    refine mix4_take (v := .bool q) rfl rfl rfl (fun _ _ _ h => h) trivial HBZ.out (fun Y _ hY => by (try simp only [Act.put]); go_simp) ?_
    (try simp only [Act.put, List.setIfInBounds_toArray, List.set_cons_succ, List.set_cons_zero, List.getElem_toArray, List.getElem_cons_succ, List.getElem_cons_zero])
    refine mix4_nil ?_
    obtain ⟨PP, hPP⟩ : ∃ PP, PP = D.heap.size := ⟨_, rfl⟩
    rw [← hPP] at HPZ HRZ hPD
    rw [← hPP]
    clear hPP
  all_goals
    obtain ⟨p0, p1, p2, p3, -⟩ := box_at HPZ.out
    have hx1 : ZZ.heap[w.heap.size]? = some (.cells #[.int .i64 t.kind, .string t.name, .int .i64 t.sort, .slice A t.kids.length cap] 35 (0, 0)) := by
      rw [HBZ.out.block _ (by have := HSD.out; omega), HBD.out.block _ (by have := HS2.out; omega)]; exact HX1.out
    have hx2 : ZZ.heap[w.heap.size + 1]? = some (.cells #[.int .i64 0, .string ⟨#[]⟩, .int .i64 0, .slice none 0 0] 35 (0, 0)) := by
      rw [HBZ.out.block _ (by have := HSD.out; omega), HBD.out.block _ (by have := HS2.out; omega)]; exact HX2.out
    obtain ⟨r0, r1, r2, r3, -⟩ := box_at hx1
    obtain ⟨c0, c1, c2', c3, cf⟩ := box_at hx2
    have HBF := Lib.hid (HB.out.trans ((HBD.out.trans (HBZ.out.mono (Nat.le_of_eq HSD0.out.symm))).mono HB.out.size))
    have HPD := Lib.hid hPD
    clear hx1 hx2 hPD d0 d1 d2 d3 IN DG
    cases hq : q
    case false =>
      have hRR : RR = t := by rw [HRR2.out, hq]; rfl
      have HRE := Lib.hid hRR
      subst hq
      clear HRR2 hRR
      go_wp2_with fail
      refine bodyPost_ret (v := t.val A cap) ?_ rfl ?_
      · simp [results, Tryd.results20, go_sem, c0, c1, c2', c3, Tm.val]
      rw [HRE.out]
      exact instR_put HBF.out (Nat.le_succ _) (RepP.mono (fun k h => ⟨by omega, by have := HBF.out.size; omega⟩) (fun q hq => HBF.out.cell hq) _ _ _ HREPW.out) _ _ _ _
    case true =>
      have hRR : RR = r := by rw [HRR2.out, hq]; rfl
      have HRE := Lib.hid hRR
      subst hq
      clear HRR2 hRR
      go_wp2_with fail
      refine bodyPost_ret (v := r.val A2 c2) ?_ rfl ?_
      · simp [results, Tryd.results20, go_sem, c0, c1, c2', c3, Tm.val]
      rw [HRE.out]
      exact instR_put HBF.out (Nat.le_succ _) (RepP.mono (fun k h => ⟨by have := h.2.1; omega, h.2.2⟩) (fun _ _ => rfl) _ _ _ HRZ.out) _ _ _ _
end Go.Proofs.YtpjmdilpldaapaaDoor
