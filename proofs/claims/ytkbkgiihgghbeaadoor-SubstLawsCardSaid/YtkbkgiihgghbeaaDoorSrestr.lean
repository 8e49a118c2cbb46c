/- subst.Restrict and the reference's. -/
import Derived.Test.YtkbkgiihgghbeaaDoorSidem
namespace Go.Proofs.YtkbkgiihgghbeaaDoor
open Go.RowKit Go.Sort

/-- the bindings whose variables occur -/
def restrE (s : List Bd) (l : List Tm) : List Bd := s.filter fun b => l.any fun t => occ b.1 t
theorem restrE_take (s : List Bd) (l : List Tm) (k : Nat) (h : k < s.length) : restrE (s.take (k + 1)) l = restrE (s.take k) l ++ (if (l.any fun t => occ s[k].1 t) = true then [s[k]] else []) := by
  unfold restrE
  rw [List.take_succ_eq_append_getElem h, List.filter_append]
  congr 1
  rw [List.filter_cons, List.filter_nil]
theorem restrE_length (s : List Bd) (l : List Tm) : (restrE s l).length ≤ s.length := List.length_filter_le _ _
theorem restrE_size {s : List Bd} (l : List Tm) (h : SizeB s) : SizeB (restrE s l) := fun b hb => h b (List.mem_filter.1 hb).1

set_option maxHeartbeats 1000000 in
set_option maxRecDepth 100000 in
/-- the closure in Restrict -/
theorem restr1_any (a : Bd) (t : Tm) (A A1 A' : Option Addr) (c c1 c' bl : Nat) (w : World) (hb : bl < w.heap.size) (ha : a.1.size ≤ 1000000) (ht : t.size ≤ 1000000)
    (hx : w.heap[bl]? = some (.cells (bcells a A c A1 c1) 54 (0, 0))) (hra : RepT w w.heap.size a.1 A c) (hrt : RepT w w.heap.size t A' c') :
    Calls Tryd.prog 57 #[t.val A' c', .pointer (some ⟨bl, 0, none⟩)] w fun e w' => e = .returned (.bool (occ a.1 t)) ∧ Below w.heap.size w w' := by
  obtain ⟨V, hV⟩ : ∃ V, V = w.alloc (boxT t A' c') := ⟨_, rfl⟩
  have hbV : Below w.heap.size w V := by rw [hV]; exact below1 (Nat.le_refl _) _
  have hvb : V.heap[w.heap.size]? = some (boxT t A' c') := by rw [hV]; exact heap_alloc_new _ _
  have hx2 := (hbV.block _ hb).trans hx
  have HC := Lib.hid (soccurs_any a.1 A c ha 1000000 t A' c' V ht (Nat.le_refl _) (hra.go hbV hbV.size) (hrt.go hbV hbV.size))
  simp only [bcells] at hx2
  obtain ⟨a0, a1, a2, a3, -, -, -, -⟩ := eight_at hx2
  obtain ⟨b0, b1, b2, b3, -⟩ := box_at hvb
  simp only [boxT] at hV
  rw [hV] at a0 a1 a2 a3 b0 b1 b2 b3
  have HBV := Lib.hid hbV; clear hbV hx hx2 hvb
  have HV := Lib.hid hV; clear hV
  generalize occ a.1 t = q at *
  simp only [Tm.val] at HC ⊢
  go_enter Tryd.func57, Tryd.ntmps57
  go_wp2_with fail
  rw [← HV.out]
  refine HC.out.mono ?_
  rintro e w' ⟨rfl, hb'⟩
  go_wp2_with fail
  go_ret
  exact ⟨rfl, below_then HBV.out hb' HBV.out.size⟩

set_option maxHeartbeats 1000000 in
set_option maxRecDepth 100000 in
theorem srestr_any (s : List Bd) (l : List Tm) (S0 L0 : Option Addr) (sc lc : Nat) (w : World) (hsz : SizeB s) (hslen : s.length ≤ 1000000) (hlz : ∀ t ∈ l, t.size ≤ 1000000) (hllen : l.length ≤ 1000000) (hrs : RepB w (fun b => b < w.heap.size) s S0 sc) (hrl : RepS w (fun b => b < w.heap.size) l L0 lc) :
    Calls Tryd.prog 30 #[.slice S0 s.length sc, .slice L0 l.length lc] w fun e w' => ∃ A c, e = .returned (.slice A (restrE s l).length c) ∧ RepB w' (fun b => b < w'.heap.size) (restrE s l) A c ∧ Below w.heap.size w w' := by
  have mixed : Tryd.prog.follows .mixedOrders = true := by kernel_rfl
  have hs1 := hrs.2.1
  have hs2 := hrs.1
  unfold maxLen at hs1
  have HRS := Lib.hid hrs; clear hrs
  have HRL := Lib.hid hrl; clear hrl
  have HLZ := Lib.hid hlz; clear hlz
  have HSZ := Lib.hid hsz; clear hsz
  go_enter Tryd.func30, Tryd.ntmps30
  go_wp2_with fail
  go_loopw [5, 10] (fun v i wr => ∃ (k c0 : Nat) (A0 : Option Addr) (its : List IB), k ≤ s.length ∧ i = .int .i64 k ∧ v = .slice A0 its.length c0 ∧ Hid (RowB wr w.heap.size (fun _ => True) (.slice A0 its.length c0) its) ∧ Hid (its.map IB.bd = restrE (s.take k) l) ∧ Hid (Below w.heap.size w wr)) (fun _ i _ => s.length - (intOf i).toNat)
  case atStart => exact ⟨0, 0, none, [], Nat.zero_le _, rfl, rfl, RowB.nil _ _ _, rfl, Below.refl _ _⟩
  case round =>
    obtain ⟨k, c0, A0, its, hk, rfl, rfl, HROW, HITS, HBW⟩ := hrel
    have i1 : (0 : Int) ≤ (k : Int) := Int.natCast_nonneg _
    by_cases hlt : k < s.length
    · have i2 : (k : Int) < (s.length : Int) := by omega
      rcases HRS.out.2.2 with h | ⟨kb, off, hS0, hbB, hl⟩
      · rw [h] at hlt; simp at hlt
      subst hS0
      have hws := HBW.out.size
      have hlr : RepLP wr (fun b => b < w.heap.size) (flat s) kb off := RepLP.mono (fun _ h => h) (fun p hp => HBW.out.cell hp) _ _ _ hbB hl
      obtain ⟨A, c, A', c', h8⟩ := hlr.get8 k hlt
      obtain ⟨hx, ht⟩ := HSZ.out s[k] (List.getElem_mem hlt)
      obtain ⟨V, hV⟩ : ∃ V, V = wr.alloc (.cells (bcells s[k] A c A' c') 54) := ⟨_, rfl⟩
      have hbx : V.heap[wr.heap.size]? = some (.cells (bcells s[k] A c A' c') 54 (0, 0)) := by rw [hV]; exact heap_alloc_new _ _
      have hbV : Below wr.heap.size wr V := by rw [hV]; exact below1 (Nat.le_refl _) _
      have hwv := below_then HBW.out hbV hws
      have hvl : wr.heap.size < V.heap.size := (Array.getElem?_eq_some_iff.1 hbx).1
      have CF := containsT_any l L0 lc 57 #[.pointer (some ⟨wr.heap.size, 0, none⟩)] (fun t => occ s[k].1 t) V (enters_of Tryd.func57 (by kernel_rfl) rfl)
        (fun t ht B e Z hZ hrt => restr1_any s[k] t A A' B c c' e wr.heap.size Z (by have := hZ.size; omega) hx (HLZ.out t ht) ((hZ.block _ hvl).trans hbx)
          (RepP.mono (fun b (h : b < w.heap.size) => by have := hZ.size; omega) (fun p (hp : p.block < w.heap.size) => (hZ.cell (by omega)).trans (hbV.cell (by omega))) _ _ _ h8.r1) hrt) hllen (RepS.up (HRL.out.below hwv) hwv.size)
      have CLX : Hid (∀ Z, Below wr.heap.size wr Z → Calls Tryd.prog 45 #[s[k].1.val A c] Z (Fresh s[k].1 Z)) := Lib.hid fun Z h => sclone_any 1000000 s[k].1 A c Z hx (Nat.le_refl _) ((h8.r1.mono' hws).go h h.size)
      have CLT : Hid (∀ Z, Below wr.heap.size wr Z → Calls Tryd.prog 45 #[s[k].2.val A' c'] Z (Fresh s[k].2 Z)) := Lib.hid fun Z h => sclone_any 1000000 s[k].2 A' c' Z ht (Nat.le_refl _) ((h8.r2.mono' hws).go h h.size)
      have hst := restrE_take s l k hlt
      rw [← HITS.out] at hst
      have hlen : its.length + 1 ≤ 100000000 := by
        have h := congrArg List.length HITS.out
        have h2 := restrE_length (s.take k) l
        simp at h h2; omega
      generalize (l.any fun t => occ s[k].1 t) = q at *
      have CF := Lib.hid CF
      obtain ⟨a0, a1, a2, a3, b0, b1, b2, b3, -, -⟩ := h8
      have HST := Lib.hid hst; clear hst
      have HBX := Lib.hid hbx; clear hbx
      have HBV := Lib.hid hbV; clear hbV hwv hlr hl
      simp only [bcells] at hV
      have HV := Lib.hid hV; clear hV
      cases q with
      | false =>
        have HNX : Hid (restrE (s.take (k + 1)) l = its.map IB.bd) := by rw [HST.out]; simp [Hid]
        clear HST CLX CLT
        go_wp2_with fail
        rw [← HV.out]
        refine CF.out.mono ?_; clear CF a0 a1 a2 a3 b0 b1 b2 b3 HV
        rintro e w2 ⟨rfl, hb2⟩
        have HB2 := Lib.hid (below_then HBV.out hb2 HBV.out.size)
        go_wp2_with fail
        go_roundw
        case rel => exact ⟨k + 1, c0, A0, its, by omega, by go_num, rfl, HROW.out.below HB2.out, HNX.out.symm, HBW.out.trans (HB2.out.mono hws)⟩
        case measure => simp [intOf]; omega
      | true =>
        have HNX : Hid (restrE (s.take (k + 1)) l = its.map IB.bd ++ [s[k]]) := by rw [HST.out]; simp [Hid]
        clear HST
        go_wp2_with fail
        rw [← HV.out]
        refine CF.out.mono ?_; clear CF a0 a1 a2 a3 b0 b1 b2 b3 HV
        rintro e w2 ⟨rfl, hb2⟩
        have hbx2 := (hb2.block _ hvl).trans HBX.out
        simp only [bcells] at hbx2
        have hbXr : Below wr.heap.size wr w2 := below_then HBV.out hb2 HBV.out.size
        clear hb2
        simp only [Tm.val] at CLX CLT
        go_wp2_with fail
        obtain ⟨d0, d1, d2, d3, d4, d5, d6, d7⟩ := eight_at (show w2.drew.heap[wr.heap.size]? = _ from hbx2)
        have hsr := hbXr.size
        have hbr4 : Below wr.heap.size wr w2.drew := hbXr.drew
        have CON := Lib.hid (CLX.out w2.drew hbr4); clear CLX
        have hne1 : (Value.slice A0 its.length c0).ownBlock ≠ some wr.heap.size := fun e => by have := (HROW.out.lt _ e).2; omega
        have hsd : w2.drew.heap.size = w2.heap.size := rfl
        have hsw : wr.heap.size < w2.heap.size := (Array.getElem?_eq_some_iff.1 hbx2).1
        refine wp_region_mix (fun Y => ∀ p : Addr, p.block < w2.drew.heap.size → (Value.slice A0 its.length c0).ownBlock ≠ some p.block → Y.cell? p = w2.drew.cell? p) 10 (.held 0 (.held 1 (.held 2 (.held 4 (.held 5 (.op 3 (.op 6 (.op 7 (.op 8 (.op 9 (.op 10 .nil))))))))))) mixed (by kernel_rfl) ?_
        generalize w2.drew = Z at *
        refine mix_take (v := .slice A0 its.length c0) rfl rfl (fun _ _ _ h => h) (fun _ _ _ => rfl) (fun Y hY => by (try simp only [Act.put]); go_simp) ?_
        refine mix_take (v := .pointer (some ⟨wr.heap.size, 0, none⟩)) rfl rfl (fun _ _ _ h => h) (fun _ _ _ => rfl) (fun Y hY => by (try simp only [Act.put]); go_simp) ?_
        refine mix_take (v := .agg #[.int .i64 s[k].1.kind, .string s[k].1.name, .int .i64 s[k].1.sort, .slice A s[k].1.kids.length c]) rfl rfl (fun _ _ _ h => h) (fun _ _ _ => rfl) (fun Y hY => by
          have z0 := (hY ⟨wr.heap.size, 0, none⟩ (by show wr.heap.size < _; omega) hne1).trans d0
          have z1 := (hY ⟨wr.heap.size, 1, none⟩ (by show wr.heap.size < _; omega) hne1).trans d1
          have z2 := (hY ⟨wr.heap.size, 2, none⟩ (by show wr.heap.size < _; omega) hne1).trans d2
          have z3 := (hY ⟨wr.heap.size, 3, none⟩ (by show wr.heap.size < _; omega) hne1).trans d3
          (try simp only [Act.put]); go_simp) ?_
        refine mix_take (v := .pointer (some ⟨wr.heap.size, 4, none⟩)) rfl rfl (fun _ _ _ h => h) (fun _ _ _ => rfl) (fun Y hY => by (try simp only [Act.put]); go_simp) ?_
        refine mix_take (v := .agg #[.int .i64 s[k].2.kind, .string s[k].2.name, .int .i64 s[k].2.sort, .slice A' s[k].2.kids.length c']) rfl rfl (fun _ _ _ h => h) (fun _ _ _ => rfl) (fun Y hY => by
          have z0 := (hY ⟨wr.heap.size, 4, none⟩ (by show wr.heap.size < _; omega) hne1).trans d4
          have z1 := (hY ⟨wr.heap.size, 5, none⟩ (by show wr.heap.size < _; omega) hne1).trans d5
          have z2 := (hY ⟨wr.heap.size, 6, none⟩ (by show wr.heap.size < _; omega) hne1).trans d6
          have z3 := (hY ⟨wr.heap.size, 7, none⟩ (by show wr.heap.size < _; omega) hne1).trans d7
          (try simp only [Act.put]); go_simp) ?_
        simp only [Act.put, List.setIfInBounds_toArray]
        refine mix_op rfl rfl (fun K hK => ?_)
        go_wp2_with fail
        refine CON.out.mono ?_; clear CON d0 d1 d2 d3 d4 d5 d6 d7
        rintro e w4 ⟨A4, c4, rfl, hrep4, hb4⟩
        refine hK _ _ ⟨fun _ p hp _ => hb4.cell hp, ?_⟩
        clear hK K
        have hs4 := hb4.size
        have hbr5 : Below wr.heap.size wr w4 := below_then hbr4 hb4 hbr4.size
        have CON := Lib.hid (CLT.out w4 hbr5); clear CLT
        try simp only [Tm.val]
        refine mix_op rfl rfl (fun K hK => ?_)
        go_wp2_with fail
        refine CON.out.mono ?_; clear CON
        rintro e w5 ⟨A5, c5, rfl, hrep5, hb5⟩
        refine hK _ _ ⟨fun _ p hp _ => (hb5.cell (by omega)).trans (hb4.cell hp), ?_⟩
        clear hK K
        have hs5 := hb5.size
        have hbr6 : Below wr.heap.size wr w5 := below_then hbr5 hb5 hbr5.size
        try simp only [Tm.val]
        refine mix_op rfl rfl (fun K hK => ?_)
        go_wp2_with fail
        refine ⟨fun _ p hp _ => (hb5.cell (by omega)).trans (hb4.cell hp), ?_⟩
        refine mix_op rfl rfl (fun K hK => ?_)
        go_wp2_with fail
        refine ⟨fun _ p hp _ => ((below1 (Nat.le_refl _) _).cell (by omega)).trans ((hb5.cell (by omega)).trans (hb4.cell hp)), ?_⟩
        refine mix_op rfl rfl (fun K hK => ?_)
        have hrow5 := HROW.out.below hbr6
        have hX1 : RepP w5 (fun b => (True) ∧ b < w5.heap.size ∧ (Value.slice A0 its.length c0).ownBlock ≠ some b) s[k].1 A4 c4 := RepP.mono (fun b h => ⟨trivial, by omega, fun e => by have := HROW.out.lt _ e; omega⟩) (fun p h => hb5.cell (by omega)) _ _ _ hrep4
        have hX2 : RepP w5 (fun b => (True) ∧ b < w5.heap.size ∧ (Value.slice A0 its.length c0).ownBlock ≠ some b) s[k].2 A5 c5 := RepP.mono (fun b h => ⟨trivial, by omega, fun e => by have := HROW.out.lt _ e; omega⟩) (fun _ _ => rfl) _ _ _ hrep5
        obtain ⟨W6, hW6⟩ : ∃ W6, W6 = w5.alloc (.cells (bCells [((s[k].1, A4, c4), (s[k].2, A5, c5))]).toArray 54) := ⟨_, rfl⟩
        have hb6 : Below w5.heap.size w5 W6 := by rw [hW6]; exact below1 (Nat.le_refl _) _
        have hs6 : W6.heap.size = w5.heap.size + 1 := by rw [hW6]; simp
        have hx6 : W6.heap[w5.heap.size]? = some (.cells (bCells [((s[k].1, A4, c4), (s[k].2, A5, c5))]).toArray 54 (0, 0)) := by rw [hW6]; exact heap_alloc_new _ _
        have key : ∀ (y : Tm) B d, RepP w5 (fun b => (True) ∧ b < w5.heap.size ∧ (Value.slice A0 its.length c0).ownBlock ≠ some b) y B d → RepP W6 (fun b => (True) ∧ b < W6.heap.size ∧ (Value.slice A0 its.length c0).ownBlock ≠ some b) y B d := fun y B d h =>
          RepP.mono (fun b ⟨g1, g2, g3⟩ => ⟨g1, by omega, g3⟩) (fun p ⟨_, hp, _⟩ => hb6.cell hp) _ _ _ h
        have hY1 := key _ _ _ hX1
        have hY2 := key _ _ _ hX2
        have hrow6 := hrow5.below hb6
        simp only [bCells, bits, itCells, Tm.cells, List.cons_append, List.nil_append] at hW6
        rw [← hW6]
        refine wp_pushB (by rfl) (.tmp 17) (.tmp 25) (by rfl) w.heap.size (fun b => True) (Value.slice A0 its.length c0) its (by rfl) hrow6 ((s[k].1, A4, c4), (s[k].2, A5, c5)) w5.heap.size _ (0, 0) (by rfl) hx6 hY1 hY2 hlen (by omega) ?_
        intro g cap2 w7 hrow7 hgr hbg
        refine hK _ _ ⟨fun _ p hp hp2 => ?_, ?_⟩
        · rw [World.cell?_of_block (hgr.block p.block (by omega) (fun e => hp2 e.symm)), hb6.cell (by omega), hb5.cell (by omega), hb4.cell hp]
        clear hK K
        simp only [Act.put, List.setIfInBounds_toArray]
        refine mix_op rfl rfl (fun K hK => ?_)
        go_wp2_with fail
        refine ⟨fun h => absurd h (by decide), ?_⟩
        refine mix_nil ?_
        have HROW7 := Lib.hid hrow7; clear hrow7
        have hbw7 : Below w.heap.size w w7 := ((HBW.out.trans (hbr6.mono hws)).trans (hb6.mono (by omega))).grown hgr (by omega) (fun j e => by have := (HROW.out.lt _ e).1; omega)
        have HBW7 := Lib.hid hbw7; clear hbw7 hgr hrow6 hrow5 hY1 hY2 hX1 hX2 key hx6 hb6 hW6 hbr5 hb5 hrep5 hrep4 hbr4 hbr6
        go_wp2_with fail
        go_roundw
        case rel => exact ⟨k + 1, cap2, some ⟨g, 0, none⟩, its ++ [((s[k].1, A4, c4), (s[k].2, A5, c5))], by omega, by go_num, by rw [List.length_append]; rfl, by rw [List.length_append]; exact HROW7.out, by rw [List.map_append, HNX.out]; rfl, HBW7.out⟩
        case measure => simp [intOf]; omega
    · obtain rfl : k = s.length := by omega
      have hits := HITS.out
      rw [List.take_length] at hits
      have hlen : its.length = (restrE s l).length := by rw [← hits, List.length_map]
      have HLEN := Lib.hid hlen; clear hlen
      have HI := Lib.hid hits; clear hits
      go_wp2_with fail
      go_ret
      obtain ⟨A1, c1, he, hS⟩ := HROW.out.toB (P := fun b => b < wr.heap.size) (fun b _ h => h) (fun b _ h => h)
      injection he with he1 _ he3
      subst he1 he3
      exact ⟨A0, c0, by rw [← HLEN.out]; rfl, by rw [← HI.out]; exact hS, HBW.out⟩

theorem hasT_set (x : Tm) (l : List Tm) : hasT (Tm.set (Tm.alls l)) x = l.any fun t => occ x t := by
  rw [hasT_iff, Bool.eq_iff_iff]
  simp only [decide_eq_true_eq, Tm.mem_set, mem_alls, List.any_eq_true, occ]

set_option maxHeartbeats 1000000 in
set_option maxRecDepth 100000 in
theorem rrestr_any (s : List Bd) (l : List Tm) (S0 L0 : Option Addr) (sc lc : Nat) (w : World) (hsz : SizeB s) (hslen : s.length ≤ 1000000) (hls : Tm.sizes l ≤ 1000000) (hrs : RepB w (fun b => b < w.heap.size) s S0 sc) (hrl : RepS w (fun b => b < w.heap.size) l L0 lc) :
    Calls Tryd.prog 32 #[.slice S0 s.length sc, .slice L0 l.length lc] w fun e w' => ∃ A c, e = .returned (.slice A (restrE s l).length c) ∧ RepB w' (fun b => b < w'.heap.size) (restrE s l) A c ∧ Below w.heap.size w w' := by
  have mixed : Tryd.prog.follows .mixedOrders = true := by kernel_rfl
  have hs1 := hrs.2.1
  have hs2 := hrs.1
  unfold maxLen at hs1
  have HRS := Lib.hid hrs; clear hrs
  have SU := rsubterms_any l L0 lc w w.heap.size (Nat.le_refl _) hls hrl
  have hzs : ∀ t ∈ Tm.set (Tm.alls l), t.size ≤ 1000000 := fun t h => by have := alls_size l t ((Tm.mem_set _ _).1 h); omega
  have hset : ∀ x, hasT (Tm.set (Tm.alls l)) x = l.any fun t => occ x t := fun x => hasT_set x l
  generalize Tm.set (Tm.alls l) = st at *
  have SU := Lib.hid SU
  have HZS := Lib.hid hzs; clear hzs
  have HSET := Lib.hid hset; clear hset
  have HSZ := Lib.hid hsz; clear hsz
  go_enter Tryd.func32, Tryd.ntmps32
  go_wp2_with fail
  refine SU.out.mono ?_; clear SU
  rintro e w1 ⟨A9, c9, n9, its9, rfl, rfl, hrow9, hb1, hits9⟩
  have hrep9 := hrow9.toRep (Nat.le_refl _)
  rw [hits9] at hrep9
  have HS9 := Lib.hid hrep9; clear hrep9 hrow9 hits9
  have HB1 := Lib.hid hb1; clear hb1
  go_wp2_with fail
  go_loopw [5, 7] (fun v i wr => ∃ (k c0 : Nat) (A0 : Option Addr) (its : List IB), k ≤ s.length ∧ i = .int .i64 k ∧ v = .slice A0 its.length c0 ∧ Hid (RowB wr w1.heap.size (fun b => b < w.heap.size) (.slice A0 its.length c0) its) ∧ Hid (its.map IB.bd = restrE (s.take k) l) ∧ Hid (Below w1.heap.size w1 wr)) (fun _ i _ => s.length - (intOf i).toNat)
  case atStart => exact ⟨0, 0, none, [], Nat.zero_le _, rfl, rfl, RowB.nil _ _ _, rfl, Below.refl _ _⟩
  case round =>
    obtain ⟨k, c0, A0, its, hk, rfl, rfl, HROW, HITS, HB1W⟩ := hrel
    have i1 : (0 : Int) ≤ (k : Int) := Int.natCast_nonneg _
    have HBW := Lib.hid (below_then HB1.out HB1W.out HB1.out.size)
    by_cases hlt : k < s.length
    · have i2 : (k : Int) < (s.length : Int) := by omega
      rcases HRS.out.2.2 with h | ⟨kb, off, hS0, hbB, hl⟩
      · rw [h] at hlt; simp at hlt
      subst hS0
      have hws := HBW.out.size
      have hw1 := HB1.out.size
      have hlr : RepLP wr (fun b => b < w.heap.size) (flat s) kb off := RepLP.mono (fun _ h => h) (fun p hp => HBW.out.cell hp) _ _ _ hbB hl
      obtain ⟨A, c, A', c', h8⟩ := hlr.get8 k hlt
      obtain ⟨hx, ht⟩ := HSZ.out s[k] (List.getElem_mem hlt)
      have HA := rhas_any st A9 c9 s[k].1 A c wr HZS.out hx (RepS.up (HS9.out.below HB1W.out) HB1W.out.size) (h8.r1.mono' hws)
      rw [HSET.out] at HA
      have hst := restrE_take s l k hlt
      rw [← HITS.out] at hst
      have hlen : its.length + 1 ≤ 100000000 := by
        have h := congrArg List.length HITS.out
        have h2 := restrE_length (s.take k) l
        simp at h h2; omega
      generalize (l.any fun t => occ s[k].1 t) = q at *
      have HST := Lib.hid hst; clear hst
      have HA := Lib.hid HA
      have H8 := Lib.hid h8
      obtain ⟨a0, a1, a2, a3, b0, b1, b2, b3, -, -⟩ := h8
      clear hlr hl
      simp only [Tm.val] at HA
      cases q with
      | false =>
        have HNX : Hid (restrE (s.take (k + 1)) l = its.map IB.bd) := by rw [HST.out]; simp [Hid]
        clear HST
        go_wp2_with fail
        refine HA.out.mono ?_; clear HA a0 a1 a2 a3 b0 b1 b2 b3
        rintro e w2 ⟨rfl, hl2⟩
        go_wp2_with fail
        go_roundw
        case rel => exact ⟨k + 1, c0, A0, its, by omega, by go_num, rfl, HROW.out.below hl2.below, HNX.out.symm, below_then HB1W.out hl2.below HB1W.out.size⟩
        case measure => simp [intOf]; omega
      | true =>
        have HNX : Hid (restrE (s.take (k + 1)) l = its.map IB.bd ++ [s[k]]) := by rw [HST.out]; simp [Hid]
        clear HST
        go_wp2_with fail
        refine HA.out.mono ?_; clear HA
        rintro e w2 ⟨rfl, hl2⟩
        have hb2 := hl2.below
        have hs2 := hb2.size
        have hc : ∀ o, w2.cell? ⟨kb, o, none⟩ = wr.cell? ⟨kb, o, none⟩ := fun o => hb2.cell (by show kb < _; omega)
        have h8 := H8.out
        have hr : ∀ (t : Tm) B e, RepP wr (fun b => b < w.heap.size) t B e → RepP w2 (fun b => b < w.heap.size) t B e := fun t B e h => RepP.mono (fun _ h => h) (fun p hp => hb2.cell (by omega)) _ _ _ h
        clear a0 a1 a2 a3 b0 b1 b2 b3
        have a0 := (hc _).trans h8.c0
        have a1 := (hc _).trans h8.c1
        have a2 := (hc _).trans h8.c2
        have a3 := (hc _).trans h8.c3
        have b0 := (hc _).trans h8.c4
        have b1 := (hc _).trans h8.c5
        have b2 := (hc _).trans h8.c6
        have b3 := (hc _).trans h8.c7
        obtain ⟨A5, c5, w5, hap, hr5, hg5, hb5⟩ := (HROW.out.below hb2).more1 (fun b h => by omega) (by have := HB1W.out.size; omega) ((s[k].1, A, c), (s[k].2, A', c')) (hr _ _ _ h8.r1) (hr _ _ _ h8.r2) hlen
        have HB5 := Lib.hid (hb5 _ _ (below_then HB1W.out hb2 HB1W.out.size) (Nat.le_refl _))
        have HR5 := Lib.hid hr5; clear hr5 hb5 hg5 hc hr h8 hb2 hl2
        dsimp only at hap
        go_wp2_with (at_builtin; refine wpList_run_append rfl _ _ rfl rfl rfl hap ?_)
        go_roundw
        case rel => exact ⟨k + 1, c5, A5, its ++ [((s[k].1, A, c), (s[k].2, A', c'))], by omega, by go_num, by rw [List.length_append]; rfl, by rw [List.length_append]; exact HR5.out, by rw [List.map_append, HNX.out]; rfl, HB5.out⟩
        case measure => simp [intOf]; omega
    · obtain rfl : k = s.length := by omega
      have hits := HITS.out
      rw [List.take_length] at hits
      have hlen : its.length = (restrE s l).length := by rw [← hits, List.length_map]
      have HLEN := Lib.hid hlen; clear hlen
      have HI := Lib.hid hits; clear hits
      go_wp2_with fail
      go_ret
      obtain ⟨A1, c1, he, hS⟩ := HROW.out.toB (P := fun b => b < wr.heap.size) (fun b _ h => h) (fun b _ h => h)
      injection he with he1 _ he3
      subst he1 he3
      exact ⟨A0, c0, by rw [← HLEN.out]; rfl, by rw [← HI.out]; exact hS, HBW.out⟩
end Go.Proofs.YtkbkgiihgghbeaaDoor
