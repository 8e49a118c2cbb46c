/- The law's own: a copy of bindings. -/
import Derived.Test.YtkbkgiihgghbeaaDoorSrapply
import Derived.Test.YtkbkgiihgghbeaaDoorScompose
namespace Go.Proofs.YtkbkgiihgghbeaaDoor
open Go.RowKit Go.Sort

set_option maxHeartbeats 1000000 in
set_option maxRecDepth 100000 in
theorem own_any (s : List Bd) (S0 : Option Addr) (sc : Nat) (w : World) (hsz : SizeB s) (hslen : s.length ≤ 1000000) (hrs : RepB w (fun b => b < w.heap.size) s S0 sc) :
    Calls Tryd.prog 24 #[.slice S0 s.length sc] w fun e w' => ∃ A c, e = .returned (.slice A s.length c) ∧ RepB w' (fun b => b < w'.heap.size) s A c ∧ Below w.heap.size w w' := by
  have mixed : Tryd.prog.follows .mixedOrders = true := by kernel_rfl
  have hs1 := hrs.2.1
  have hs2 := hrs.1
  unfold maxLen at hs1
  have HRS := Lib.hid hrs; clear hrs
  have HSZ := Lib.hid hsz; clear hsz
  go_enter Tryd.func24, Tryd.ntmps24
  go_wp2_with fail
  go_loopw [3, 8] (fun v i wr => ∃ (k c0 : Nat) (A0 : Option Addr) (its : List IB), k ≤ s.length ∧ i = .int .i64 k ∧ v = .slice A0 its.length c0 ∧ Hid (RowB wr w.heap.size (fun _ => True) (.slice A0 its.length c0) its) ∧ Hid (its.map IB.bd = s.take k) ∧ Hid (Below w.heap.size w wr)) (fun _ i _ => s.length - (intOf i).toNat)
  case atStart => exact ⟨0, 0, none, [], Nat.zero_le _, rfl, rfl, RowB.nil _ _ _, rfl, Below.refl _ _⟩
  case round =>
    obtain ⟨k, c0, A0, its, hk, rfl, rfl, HROW, HITS, HBW⟩ := hrel
    have i1 : (0 : Int) ≤ (k : Int) := Int.natCast_nonneg _
    by_cases hlt : k < s.length
    · have i2 : (k : Int) < (s.length : Int) := by omega
      rcases HRS.out.2.2 with h | ⟨kb, off, hS0, hbB, hl⟩
      · rw [h] at hlt; simp at hlt
      subst hS0
      have hws := HBW.out.size
      have hlr : RepLP wr (fun b => b < w.heap.size) (flat s) kb off := RepLP.mono (fun _ h => h) (fun p hp => HBW.out.cell hp) _ _ _ hbB hl
      obtain ⟨A, c, A', c', h8⟩ := hlr.get8 k hlt
      obtain ⟨hx, ht⟩ := HSZ.out s[k] (List.getElem_mem hlt)
      obtain ⟨V, hV⟩ : ∃ V, V = wr.alloc (.cells #[.int .i64 s[k].1.kind, .string s[k].1.name, .int .i64 s[k].1.sort, .slice A s[k].1.kids.length c, .int .i64 s[k].2.kind, .string s[k].2.name, .int .i64 s[k].2.sort, .slice A' s[k].2.kids.length c'] 54) := ⟨_, rfl⟩
      have hbx2 : V.heap[wr.heap.size]? = some (.cells #[.int .i64 s[k].1.kind, .string s[k].1.name, .int .i64 s[k].1.sort, .slice A s[k].1.kids.length c, .int .i64 s[k].2.kind, .string s[k].2.name, .int .i64 s[k].2.sort, .slice A' s[k].2.kids.length c'] 54 (0, 0)) := by rw [hV]; exact heap_alloc_new _ _
      have hbXr : Below wr.heap.size wr V := by rw [hV]; exact below1 (Nat.le_refl _) _
      have PUT : ∀ (t : Tm) (B : Option Addr) (e : Nat), t.size ≤ 1000000 → RepP wr (fun b => b < w.heap.size) t B e → ∀ Z, Below wr.heap.size wr Z → Calls Tryd.prog 52 #[.slice none 0 0, t.val B e] Z (Put w.heap.size t Z) := fun t B e hn hr Z h => by
        have := rput_any w.heap.size [] none 0 (fun b hb => by simp at hb) 1000000 t B e Z hn (Nat.le_refl _) (by have := h.size; omega) ⟨Nat.le_refl _, by simp [maxLen], .inl rfl⟩ (RepP.mono (fun _ h => h) (fun p (hp : p.block < w.heap.size) => h.cell (by omega)) _ _ _ hr)
        rwa [Tm.put_nil] at this
      have CLX := Lib.hid (PUT s[k].1 A c hx h8.r1)
      have CLT := Lib.hid (PUT s[k].2 A' c' ht h8.r2)
      have hlen : its.length + 1 ≤ 100000000 := by
        have h := congrArg List.length HITS.out
        simp at h; omega
      clear PUT
      obtain ⟨a0, a1, a2, a3, b0, b1, b2, b3, -, -⟩ := h8
      have HV := Lib.hid hV; clear hV hlr hl
      simp only [Tm.val] at CLX CLT
      go_wp2_with fail
      rw [← HV.out]
      clear a0 a1 a2 a3 b0 b1 b2 b3 HV
      obtain ⟨d0, d1, d2, d3, d4, d5, d6, d7⟩ := eight_at (show V.drew.heap[wr.heap.size]? = _ from hbx2)
      have hsr := hbXr.size
      have hbr4 : Below wr.heap.size wr V.drew := hbXr.drew
      have CON := Lib.hid (CLX.out V.drew hbr4); clear CLX
      have hne1 : (Value.slice A0 its.length c0).ownBlock ≠ some wr.heap.size := fun e => by have := (HROW.out.lt _ e).2; omega
      have hsd : V.drew.heap.size = V.heap.size := rfl
      have hsw : wr.heap.size < V.heap.size := (Array.getElem?_eq_some_iff.1 hbx2).1
      refine wp_region_mix (fun Y => ∀ p : Addr, p.block < V.drew.heap.size → (Value.slice A0 its.length c0).ownBlock ≠ some p.block → Y.cell? p = V.drew.cell? p) 10 (.held 0 (.held 1 (.held 2 (.held 4 (.held 5 (.op 3 (.op 6 (.op 7 (.op 8 (.op 9 (.op 10 .nil))))))))))) mixed (by kernel_rfl) ?_
      generalize V.drew = Z at *
      refine mix_take (v := .slice A0 its.length c0) rfl rfl (fun _ _ _ h => h) (fun _ _ _ => rfl) (fun Y hY => by (try simp only [Act.put]); go_simp) ?_
      refine mix_take (v := .pointer (some ⟨wr.heap.size, 0, none⟩)) rfl rfl (fun _ _ _ h => h) (fun _ _ _ => rfl) (fun Y hY => by (try simp only [Act.put]); go_simp) ?_
      refine mix_take (v := .agg #[.int .i64 s[k].1.kind, .string s[k].1.name, .int .i64 s[k].1.sort, .slice A s[k].1.kids.length c]) rfl rfl (fun _ _ _ h => h) (fun _ _ _ => rfl) (fun Y hY => by
        have z0 := (hY ⟨wr.heap.size, 0, none⟩ (by show wr.heap.size < _; omega) hne1).trans d0
        have z1 := (hY ⟨wr.heap.size, 1, none⟩ (by show wr.heap.size < _; omega) hne1).trans d1
        have z2 := (hY ⟨wr.heap.size, 2, none⟩ (by show wr.heap.size < _; omega) hne1).trans d2
        have z3 := (hY ⟨wr.heap.size, 3, none⟩ (by show wr.heap.size < _; omega) hne1).trans d3
        (try simp only [Act.put]); go_simp) ?_
      refine mix_take (v := .pointer (some ⟨wr.heap.size, 4, none⟩)) rfl rfl (fun _ _ _ h => h) (fun _ _ _ => rfl) (fun Y hY => by (try simp only [Act.put]); go_simp) ?_
      refine mix_take (v := .agg #[.int .i64 s[k].2.kind, .string s[k].2.name, .int .i64 s[k].2.sort, .slice A' s[k].2.kids.length c']) rfl rfl (fun _ _ _ h => h) (fun _ _ _ => rfl) (fun Y hY => by
        have z0 := (hY ⟨wr.heap.size, 4, none⟩ (by show wr.heap.size < _; omega) hne1).trans d4
        have z1 := (hY ⟨wr.heap.size, 5, none⟩ (by show wr.heap.size < _; omega) hne1).trans d5
        have z2 := (hY ⟨wr.heap.size, 6, none⟩ (by show wr.heap.size < _; omega) hne1).trans d6
        have z3 := (hY ⟨wr.heap.size, 7, none⟩ (by show wr.heap.size < _; omega) hne1).trans d7
        (try simp only [Act.put]); go_simp) ?_
      simp only [Act.put, List.setIfInBounds_toArray]
      refine mix_op rfl rfl (fun K hK => ?_)
      go_wp2_with fail
      refine CON.out.mono ?_; clear CON d0 d1 d2 d3 d4 d5 d6 d7
      rintro e w4 ⟨A4, c4, rfl, hrep4, hb4⟩
      refine hK _ _ ⟨fun _ p hp _ => hb4.cell hp, ?_⟩
      clear hK K
      have hs4 := hb4.size
      have hbr5 : Below wr.heap.size wr w4 := below_then hbr4 hb4 hbr4.size
      have CON := Lib.hid (CLT.out w4 hbr5); clear CLT
      try simp only [Tm.val]
      refine mix_op rfl rfl (fun K hK => ?_)
      go_wp2_with fail
      refine CON.out.mono ?_; clear CON
      rintro e w5 ⟨A5, c5, rfl, hrep5, hb5⟩
      refine hK _ _ ⟨fun _ p hp _ => (hb5.cell (by omega)).trans (hb4.cell hp), ?_⟩
      clear hK K
      have hs5 := hb5.size
      have hbr6 : Below wr.heap.size wr w5 := below_then hbr5 hb5 hbr5.size
      try simp only [Tm.val]
      refine mix_op rfl rfl (fun K hK => ?_)
      go_wp2_with fail
      refine ⟨fun _ p hp _ => (hb5.cell (by omega)).trans (hb4.cell hp), ?_⟩
      refine mix_op rfl rfl (fun K hK => ?_)
      go_wp2_with fail
      refine ⟨fun _ p hp _ => ((below1 (Nat.le_refl _) _).cell (by omega)).trans ((hb5.cell (by omega)).trans (hb4.cell hp)), ?_⟩
      refine mix_op rfl rfl (fun K hK => ?_)
      have hrow5 := HROW.out.below hbr6
      have hX1 : RepP w5 (fun b => (True) ∧ b < w5.heap.size ∧ (Value.slice A0 its.length c0).ownBlock ≠ some b) s[k].1 A4 c4 := RepP.mono (fun b h => ⟨trivial, by rcases h with h | ⟨_, h⟩ <;> omega, fun e => by have := HROW.out.lt _ e; rcases h with h | ⟨h, _⟩ <;> omega⟩) (fun p h => hb5.cell (by rcases h with h | ⟨_, h⟩ <;> omega)) _ _ _ hrep4
      have hX2 : RepP w5 (fun b => (True) ∧ b < w5.heap.size ∧ (Value.slice A0 its.length c0).ownBlock ≠ some b) s[k].2 A5 c5 := RepP.mono (fun b h => ⟨trivial, by rcases h with h | ⟨_, h⟩ <;> omega, fun e => by have := HROW.out.lt _ e; rcases h with h | ⟨h, _⟩ <;> omega⟩) (fun _ _ => rfl) _ _ _ hrep5
      obtain ⟨W6, hW6⟩ : ∃ W6, W6 = w5.alloc (.cells (bCells [((s[k].1, A4, c4), (s[k].2, A5, c5))]).toArray 54) := ⟨_, rfl⟩
      have hb6 : Below w5.heap.size w5 W6 := by rw [hW6]; exact below1 (Nat.le_refl _) _
      have hs6 : W6.heap.size = w5.heap.size + 1 := by rw [hW6]; simp
      have hx6 : W6.heap[w5.heap.size]? = some (.cells (bCells [((s[k].1, A4, c4), (s[k].2, A5, c5))]).toArray 54 (0, 0)) := by rw [hW6]; exact heap_alloc_new _ _
      have key : ∀ (y : Tm) B d, RepP w5 (fun b => (True) ∧ b < w5.heap.size ∧ (Value.slice A0 its.length c0).ownBlock ≠ some b) y B d → RepP W6 (fun b => (True) ∧ b < W6.heap.size ∧ (Value.slice A0 its.length c0).ownBlock ≠ some b) y B d := fun y B d h =>
        RepP.mono (fun b ⟨g1, g2, g3⟩ => ⟨g1, by omega, g3⟩) (fun p ⟨_, hp, _⟩ => hb6.cell hp) _ _ _ h
      have hY1 := key _ _ _ hX1
      have hY2 := key _ _ _ hX2
      have hrow6 := hrow5.below hb6
      simp only [bCells, bits, itCells, Tm.cells, List.cons_append, List.nil_append] at hW6
      rw [← hW6]
      refine wp_pushB (by rfl) (.tmp 12) (.tmp 20) (by rfl) w.heap.size (fun b => True) (Value.slice A0 its.length c0) its (by rfl) hrow6 ((s[k].1, A4, c4), (s[k].2, A5, c5)) w5.heap.size _ (0, 0) (by rfl) hx6 hY1 hY2 hlen (by omega) ?_
      intro g cap2 w7 hrow7 hgr hbg
      refine hK _ _ ⟨fun _ p hp hp2 => ?_, ?_⟩
      · rw [World.cell?_of_block (hgr.block p.block (by omega) (fun e => hp2 e.symm)), hb6.cell (by omega), hb5.cell (by omega), hb4.cell hp]
      clear hK K
      simp only [Act.put, List.setIfInBounds_toArray]
      refine mix_op rfl rfl (fun K hK => ?_)
      go_wp2_with fail
      refine ⟨fun h => absurd h (by decide), ?_⟩
      refine mix_nil ?_
      have HROW7 := Lib.hid hrow7; clear hrow7
      have hbw7 : Below w.heap.size w w7 := ((HBW.out.trans (hbr6.mono hws)).trans (hb6.mono (by omega))).grown hgr (by omega) (fun j e => by have := (HROW.out.lt _ e).1; omega)
      have HBW7 := Lib.hid hbw7; clear hbw7 hgr hrow6 hrow5 hY1 hY2 hX1 hX2 key hx6 hb6 hW6 hbr5 hb5 hrep5 hrep4 hbr4 hbr6
      go_wp2_with fail
      go_roundw
      case rel => exact ⟨k + 1, cap2, some ⟨g, 0, none⟩, its ++ [((s[k].1, A4, c4), (s[k].2, A5, c5))], by omega, by go_num, by rw [List.length_append]; rfl, by rw [List.length_append]; exact HROW7.out, by rw [List.map_append, HITS.out, List.take_succ_eq_append_getElem hlt]; rfl, HBW7.out⟩
      case measure => simp [intOf]; omega
    · obtain rfl : k = s.length := by omega
      have hits := HITS.out
      rw [List.take_length] at hits
      have hlen : its.length = s.length := by rw [← hits, List.length_map]
      have HLEN := Lib.hid hlen; clear hlen
      have HI := Lib.hid hits; clear hits
      go_wp2_with fail
      go_ret
      obtain ⟨A1, c1, he, hS⟩ := HROW.out.toB (P := fun b => b < wr.heap.size) (fun b _ h => h) (fun b _ h => h)
      injection he with he1 _ he3
      subst he1 he3
      exact ⟨A0, c0, by rw [← HLEN.out]; rfl, by rw [← HI.out]; exact hS, HBW.out⟩
end Go.Proofs.YtkbkgiihgghbeaaDoor
