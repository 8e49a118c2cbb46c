/- The reference's Few of bindings. -/
import Derived.Test.YtipmibjhlpnhjaaGreatDoorSsame
namespace Go.Proofs.YtipmibjhlpnhjaaGreatDoor
open Go.RowKit Go.Sort

/-- two terms appended to a row of the call's own, at a bare operation; the bound in bytes -/
theorem wp_push2 {w : World} {o : Oper} {a : Act} {K : Act → World → Prop} {Q : Exit → Act → World → Prop} (s x : Operand)
    (ho : o.op = .call { callee := .builtin .append, args := #[s, x], argTypes := #[22, 22] })
    (base : Nat) (F : Nat → Prop) (v : Value) (its : List It) (hs : a.eval s = v) (hrow : RowT w base F v its)
    (X Y : It) (B c : Nat) (fr : Nat × Nat) (hx : a.eval x = .slice (some ⟨B, 0, none⟩) 2 c) (hB : w.heap[B]? = some (.cells (itCells [X, Y]).toArray 24 fr))
    (hX1 : RepP w (fun b => F b ∧ b < w.heap.size ∧ v.ownBlock ≠ some b) X.1 X.2.1 X.2.2) (hX2 : RepP w (fun b => F b ∧ b < w.heap.size ∧ v.ownBlock ≠ some b) Y.1 Y.2.1 Y.2.2) (hlen : (its.length + 2) * 56 ≤ 140737488355328) (hbase : base ≤ w.heap.size)
    (h : ∀ g cap w', RowT w' base F (.slice (some ⟨g, 0, none⟩) (its.length + 2) cap) (its ++ [X, Y]) → w.grownBy w' v.ownBlock → base ≤ g → K (a.put o.dst (.slice (some ⟨g, 0, none⟩) (its.length + 2) cap)) w') :
    Oper.wp Tryz.prog o a w K Q := by
  obtain ⟨i0, hi0, hz0, hz1, hz2⟩ := info_parts termInfo
  refine wp_append_lies w s x _ ho base _ i0 _ 4 56 Tryz.underlying22 hi0 hz0 hz1 hz2 rfl (by omega) v its.length (itCells its) hs hrow.own ⟨B, 0, none⟩ 2 c (itCells [X, Y]) hx (by rw [itCells_length]; rfl)
    (fun j u hu => World.news_of_block hB j u (by simpa using hu)) (itCells_one [X, Y]) (by omega) (by unfold maxLen; omega) hlen hbase w.heap.size rfl ?_
  intro g cap w' h2 h3 h4 h5
  have hg : g = w.heap.size ∨ v.ownBlock = some g := by rcases h4 with h | h; exact .inr h; exact .inl h
  have hR : RowT w' base F (.slice (some ⟨g, 0, none⟩) (its.length + 2) cap) (its ++ [X, Y]) := by
    refine ⟨by rw [itCells_append, List.length_append]; exact h2, fun x hx => ?_⟩
    have key : ∀ (t : Tm) A c, RepP w (fun b => F b ∧ b < w.heap.size ∧ v.ownBlock ≠ some b) t A c → RepP w' (fun b => F b ∧ b < w'.heap.size ∧ (Value.slice (some ⟨g, 0, none⟩) (its.length + 2) cap).ownBlock ≠ some b) t A c := fun t A c hr => by
      refine RepP.mono ?_ ?_ _ _ _ hr
      · rintro b ⟨k1, k2, k3⟩
        refine ⟨k1, Nat.lt_of_lt_of_le k2 h3.size, fun e => ?_⟩
        have e' : g = b := by injection e
        rcases hg with h | h
        · omega
        · rw [e'] at h; exact k3 h
      · rintro p ⟨k1, k2, k3⟩
        exact World.cell?_of_block (h3.block p.block k2 (fun e => k3 e.symm))
    rcases List.mem_append.1 hx with hx | hx
    · exact key _ _ _ (hrow.reps x hx)
    · simp only [List.mem_cons, List.not_mem_nil, or_false] at hx
      rcases hx with rfl | rfl
      · exact key _ _ _ hX1
      · exact key _ _ _ hX2
  exact h g cap w' hR h3 (hR.lt g rfl).1

theorem flat_take_succ (l : List Bd) (k : Nat) (h : k < l.length) : flat (l.take (k + 1)) = flat (l.take k) ++ [l[k].1, l[k].2] := by
  rw [List.take_succ_eq_append_getElem h, flat_append]; rfl
/-- what the reference's Few answers -/
def fewB (l : List Bd) (n m : Int) : Bool := decide (((flat l).length : Int) ≤ 2 * n) && decide (0 ≤ Tm.lefts (flat l) m)

set_option maxHeartbeats 1200000 in
set_option maxRecDepth 100000 in
theorem rfewB_any (l : List Bd) (A0 : Option Addr) (cap0 : Nat) (n m : Int) (w : World) (hn0 : 0 ≤ n) (hn1 : n ≤ 1000000) (hm0 : 0 ≤ m) (hm1 : m ≤ 1000000) (hroom : l.length * 112 ≤ 140737488355328) (hrep : RepB w (fun b => b < w.heap.size) l A0 cap0) :
    Calls Tryz.prog 30 #[.slice A0 l.length cap0, .int .i64 n, .int .i64 m] w fun e w' => e = .returned (.bool (fewB l n m)) ∧ Below w.heap.size w w' := by
  have mixed : Tryz.prog.follows .mixedOrders = true := by kernel_rfl
  have hw2 : IntKind.i64.wrap (2 * n) = 2 * n := by rw [IntKind.wrap_i64]; omega
  have HREP := Lib.hid hrep; clear hrep
  go_enter Tryz.func30, Tryz.ntmps30
  go_wp2_with fail
  go_loopw [7, 8] (fun v i wr => ∃ (k c : Nat) (A : Option Addr) (its : List It), k ≤ l.length ∧ i = .int .i64 k ∧ v = .slice A its.length c ∧ Hid (its.length = 2 * k) ∧ Hid (RowT wr w.heap.size (fun b => b < w.heap.size) (.slice A its.length c) its) ∧
      Hid (its.map (·.1) = flat (l.take k)) ∧ Hid (Below w.heap.size w wr)) (fun _ i _ => l.length - (intOf i).toNat)
  case atStart => exact ⟨0, 0, none, [], Nat.zero_le _, rfl, rfl, rfl, RowT.nil _ _ _, rfl, Below.refl _ _⟩
  case round =>
    obtain ⟨k, c0, A0', its, hk, rfl, rfl, HM, HROW, HITS, HBW⟩ := hrel
    have i1 : (0 : Int) ≤ (k : Int) := Int.natCast_nonneg _
    by_cases hlt : k < l.length
    · have i2 : (k : Int) < (l.length : Int) := by omega
      rcases HREP.out.2.2 with h | ⟨kb, off, hA0, hbB, hl⟩
      · rw [h] at hlt; simp at hlt
      subst hA0
      have hws := HBW.out.size
      have hlr : RepLP wr (fun b => b < w.heap.size) (flat l) kb off := RepLP.mono (fun _ h => h) (fun p hp => HBW.out.cell hp) _ _ _ hbB hl
      obtain ⟨A, c, A', c', h8⟩ := hlr.get8 k hlt
      obtain ⟨a0, a1, a2, a3, b0, b1, b2, b3, r1, r2⟩ := h8
      have hne : (Value.slice A0' its.length c0).ownBlock ≠ some kb := fun e => by have := (HROW.out.lt _ e).1; omega
      have hlen : (its.length + 2) * 56 ≤ 140737488355328 := by have := HM.out; omega
      have hnx := flat_take_succ l k hlt
      have HNX := Lib.hid hnx; clear hnx hlr hl
      have hkb : kb < wr.drew.heap.size := by show kb < wr.heap.size; omega
      have hsd : wr.drew.heap.size = wr.heap.size := rfl
      have hbZ : Below wr.heap.size wr wr.drew := (Below.refl _ _).drew
      go_wp2_with fail
      refine wp_region_mix (fun Y => ∀ p : Addr, p.block < wr.drew.heap.size → (Value.slice A0' its.length c0).ownBlock ≠ some p.block → Y.cell? p = wr.drew.cell? p) 13 (.held 0 (.held 1 (.held 2 (.held 3 (.held 4 (.held 5 (.held 6 (.held 7 (.held 8 (.held 9 (.held 10 (.op 11 (.op 12 (.op 13 .nil)))))))))))))) mixed (by kernel_rfl) ?_
      refine mix_take (v := .slice A0' its.length c0) rfl rfl (fun _ _ _ h => h) (fun _ _ _ => rfl) (fun Y hY => by (try simp only [Act.put]); go_simp) ?_
      refine mix_take (v := .slice (some ⟨kb, off, none⟩) l.length cap0) rfl rfl (fun _ _ _ h => h) (fun _ _ _ => rfl) (fun Y hY => by (try simp only [Act.put]); go_simp) ?_
      refine mix_take (v := .int .i64 k) rfl rfl (fun _ _ _ h => h) (fun _ _ _ => rfl) (fun Y hY => by (try simp only [Act.put]); go_simp) ?_
      refine mix_take (v := .pointer (some ⟨kb, off + k * 8, none⟩)) rfl rfl (fun _ _ _ h => h) (fun _ _ _ => rfl) (fun Y hY => by (try simp only [Act.put]); go_simp) ?_
      refine mix_take (v := .pointer (some ⟨kb, off + k * 8, none⟩)) rfl rfl (fun _ _ _ h => h) (fun _ _ _ => rfl) (fun Y hY => by (try simp only [Act.put]); go_simp) ?_
      refine mix_take (v := .agg #[.int .i64 l[k].1.kind, .string l[k].1.name, .int .i64 l[k].1.sort, .slice A l[k].1.kids.length c]) rfl rfl (fun _ _ _ h => h) (fun _ _ _ => rfl) (fun Y hY => by
        have z0 := (hY ⟨kb, off + k * 8, none⟩ hkb hne).trans a0
        have z1 := (hY ⟨kb, off + k * 8 + 1, none⟩ hkb hne).trans a1
        have z2 := (hY ⟨kb, off + k * 8 + 2, none⟩ hkb hne).trans a2
        have z3 := (hY ⟨kb, off + k * 8 + 3, none⟩ hkb hne).trans a3
        (try simp only [Act.put]); go_simp) ?_
      refine mix_take (v := .slice (some ⟨kb, off, none⟩) l.length cap0) rfl rfl (fun _ _ _ h => h) (fun _ _ _ => rfl) (fun Y hY => by (try simp only [Act.put]); go_simp) ?_
      refine mix_take (v := .int .i64 k) rfl rfl (fun _ _ _ h => h) (fun _ _ _ => rfl) (fun Y hY => by (try simp only [Act.put]); go_simp) ?_
      refine mix_take (v := .pointer (some ⟨kb, off + k * 8, none⟩)) rfl rfl (fun _ _ _ h => h) (fun _ _ _ => rfl) (fun Y hY => by (try simp only [Act.put]); go_simp) ?_
      refine mix_take (v := .pointer (some ⟨kb, off + k * 8 + 4, none⟩)) rfl rfl (fun _ _ _ h => h) (fun _ _ _ => rfl) (fun Y hY => by (try simp only [Act.put]); go_simp) ?_
      refine mix_take (v := .agg #[.int .i64 l[k].2.kind, .string l[k].2.name, .int .i64 l[k].2.sort, .slice A' l[k].2.kids.length c']) rfl rfl (fun _ _ _ h => h) (fun _ _ _ => rfl) (fun Y hY => by
        have z0 := (hY ⟨kb, off + k * 8 + 4, none⟩ hkb hne).trans b0
        have z1 := (hY ⟨kb, off + k * 8 + 5, none⟩ hkb hne).trans b1
        have z2 := (hY ⟨kb, off + k * 8 + 6, none⟩ hkb hne).trans b2
        have z3 := (hY ⟨kb, off + k * 8 + 7, none⟩ hkb hne).trans b3
        (try simp only [Act.put]); go_simp) ?_
      simp only [Act.put, List.setIfInBounds_toArray]
      generalize wr.drew = Z at *
      refine mix_op rfl rfl (fun K hK => ?_)
      go_wp2_with fail
      refine ⟨fun _ p hp _ => (below1 (Nat.le_refl _) _).cell (by omega), ?_⟩
      refine mix_op rfl rfl (fun K hK => ?_)
      have hrow5 := HROW.out.below hbZ
      have key0 : ∀ (y : Tm) B d, RepP wr (fun b => b < w.heap.size) y B d → RepP Z (fun b => b < w.heap.size ∧ b < Z.heap.size ∧ (Value.slice A0' its.length c0).ownBlock ≠ some b) y B d := fun y B d h =>
        RepP.mono (fun b (g : b < w.heap.size) => ⟨g, by omega, fun e => by have := (HROW.out.lt _ e).1; omega⟩) (fun p (hp : p.block < w.heap.size) => hbZ.cell (by omega)) _ _ _ h
      obtain ⟨W6, hW6⟩ : ∃ W6, W6 = Z.alloc (.cells (itCells [(l[k].1, A, c), (l[k].2, A', c')]).toArray 24) := ⟨_, rfl⟩
      have hb6 : Below Z.heap.size Z W6 := by rw [hW6]; exact below1 (Nat.le_refl _) _
      have hs6 : W6.heap.size = Z.heap.size + 1 := by rw [hW6]; simp
      have hx6 : W6.heap[Z.heap.size]? = some (.cells (itCells [(l[k].1, A, c), (l[k].2, A', c')]).toArray 24 (0, 0)) := by rw [hW6]; exact heap_alloc_new _ _
      have key : ∀ (y : Tm) B d, RepP Z (fun b => b < w.heap.size ∧ b < Z.heap.size ∧ (Value.slice A0' its.length c0).ownBlock ≠ some b) y B d → RepP W6 (fun b => b < w.heap.size ∧ b < W6.heap.size ∧ (Value.slice A0' its.length c0).ownBlock ≠ some b) y B d := fun y B d h =>
        RepP.mono (fun b ⟨g1, g2, g3⟩ => ⟨g1, by omega, g3⟩) (fun p ⟨_, hp, _⟩ => hb6.cell hp) _ _ _ h
      have hY1 := key _ _ _ (key0 _ _ _ r1)
      have hY2 := key _ _ _ (key0 _ _ _ r2)
      have hrow6 := hrow5.below hb6
      simp only [itCells, Tm.cells, List.cons_append, List.nil_append] at hW6
      rw [← hW6]
      refine wp_push2 (.tmp 15) (.tmp 26) (by rfl) w.heap.size (fun b => b < w.heap.size) (.slice A0' its.length c0) its (by rfl) hrow6 (l[k].1, A, c) (l[k].2, A', c') wr.heap.size _ (0, 0) (by rfl) (by rw [← hsd]; exact hx6) hY1 hY2 hlen (by omega) ?_
      intro g cap2 w7 hrow7 hgr hbg
      refine hK _ _ ⟨fun _ p hp hp2 => ?_, ?_⟩
      · rw [World.cell?_of_block (hgr.block p.block (by omega) (fun e => hp2 e.symm)), hb6.cell (by omega)]
      clear hK K
      simp only [Act.put, List.setIfInBounds_toArray]
      refine mix_op rfl rfl (fun K hK => ?_)
      go_wp2_with fail
      refine ⟨fun h => absurd h (by decide), ?_⟩
      refine mix_nil ?_
      have HROW7 := Lib.hid hrow7; clear hrow7
      have hbw7 : Below w.heap.size w w7 := ((HBW.out.trans (hbZ.mono hws)).trans (hb6.mono (by omega))).grown hgr (by omega) (fun j e => by have := (HROW.out.lt _ e).1; omega)
      have HBW7 := Lib.hid hbw7; clear hbw7 hgr hrow6 hrow5 hY1 hY2 key key0 hx6 hb6 hW6 hbZ
      have HL2 : Hid ((its ++ [(l[k].1, A, c), (l[k].2, A', c')]).length = 2 * (k + 1) ∧ (its ++ [(l[k].1, A, c), (l[k].2, A', c')]).length = its.length + 2) := by
        have := HM.out
        exact ⟨by simp; omega, by simp⟩
      go_wp2_with fail
      go_roundw
      case rel =>
        exact ⟨k + 1, cap2, some ⟨g, 0, none⟩, its ++ [(l[k].1, A, c), (l[k].2, A', c')], by omega, by go_num, by rw [HL2.out.2], HL2.out.1, by rw [HL2.out.2]; exact HROW7.out, by show (its ++ [(l[k].1, A, c), (l[k].2, A', c')]).map (·.1) = _; rw [List.map_append, HITS.out, HNX.out]; rfl, HBW7.out⟩
      case measure => simp [intOf]; omega
    · obtain rfl : k = l.length := by omega
      have hf : its.map (·.1) = flat l := by have := HITS.out; rw [List.take_length] at this; exact this
      have hfl : its.length = (flat l).length := by rw [← hf]; simp
      obtain ⟨A9, c9, hv9, hS⟩ := HROW.out.toS (P := fun b => b < wr.heap.size) (fun b _ h => h) (fun b _ h => h)
      injection hv9 with g1 g2 g3
      subst g1 g3
      rw [hf] at hS
      have FW := few_any (flat l) A0' c0 (2 * n) m wr hm0 hm1 hS
      rw [← hfl] at FW
      have FW := Lib.hid FW
      have HFL := Lib.hid hfl; clear hfl hf hS
      go_wp2_with fail
      refine FW.out.mono ?_; clear FW
      rintro e w2 ⟨rfl, hl2⟩
      go_wp2_with fail
      go_ret
      exact ⟨by unfold fewB; rw [← HFL.out]; rfl, HBW.out.trans (hl2.below.mono HBW.out.size)⟩
end Go.Proofs.YtipmibjhlpnhjaaGreatDoor
