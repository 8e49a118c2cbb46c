/- cast.belonging and cast.with. -/
import Derived.Test.YtpjmdilpldaapaaDoorCset
import Derived.Test.YtpjmdilpldaapaaDoorCvalid
namespace Go.Proofs.YtpjmdilpldaapaaDoor
open Go.RowKit Go.Sort

/-- one term behind a row, the term in a block of one that was laid for the purpose; its parts may be the row's own -/
theorem rowT_add1' {w : World} {base : Nat} {F : Nat → Prop} {v : Value} {its : List It} (hrow : RowT w base F v its) (hbase : base ≤ w.heap.size) (X : It)
    (hX : RepP w (fun b => F b ∧ b < w.heap.size ∧ v.ownBlock ≠ some b) X.1 X.2.1 X.2.2) (hlen : its.length + 1 ≤ 100000000) :
    ∃ v' w', (∀ ty, (Builtin.append_ #[33, 33] ty #[v, .slice (some ⟨w.heap.size, 0, none⟩) 1 1]).run Tryd.prog (w.alloc (.cells #[.int .i64 X.1.kind, .string X.1.name, .int .i64 X.1.sort, .slice X.2.1 X.1.kids.length X.2.2] 35)) = .ok v' w') ∧
      RowT w' base F v' (its ++ [X]) ∧ Below base w w' ∧ (∀ k, k < w.heap.size → v.ownBlock ≠ some k → w'.heap[k]? = w.heap[k]?) ∧ (v'.ownBlock = v.ownBlock ∨ ∀ k, v'.ownBlock = some k → w.heap.size ≤ k) := by
  obtain ⟨i0, hi0, hz0, hz1, hz2⟩ := info_parts termInfo
  have hb : Below w.heap.size w (w.alloc (.cells #[.int .i64 X.1.kind, .string X.1.name, .int .i64 X.1.sort, .slice X.2.1 X.1.kids.length X.2.2] 35)) := below1 (Nat.le_refl _) _
  have hrow' := hrow.below hb
  have hn := heap_alloc_new w (.cells #[.int .i64 X.1.kind, .string X.1.name, .int .i64 X.1.sort, .slice X.2.1 X.1.kids.length X.2.2] 35)
  have hsz : (w.alloc (.cells #[.int .i64 X.1.kind, .string X.1.name, .int .i64 X.1.sort, .slice X.2.1 X.1.kids.length X.2.2] 35)).heap.size = w.heap.size + 1 := by simp
  generalize w.alloc (.cells #[.int .i64 X.1.kind, .string X.1.name, .int .i64 X.1.sort, .slice X.2.1 X.1.kids.length X.2.2] 35) = Z at *
  obtain ⟨v', w', hr, ho, hg, -, hat⟩ := run_append_own_at (P := Tryd.prog) (w := Z) base 33 0 35 i0 _ 4 56 Tryd.underlying33 hi0 hz0 hz1 hz2 rfl (by omega) v its.length (itCells its) hrow'.own
    ⟨w.heap.size, 0, none⟩ 1 1 (X.1.cells X.2.1 X.2.2) rfl (fun j u hj => World.news_of_block hn j u (by simpa [Tm.cells] using hj)) (fun u hu => itCells_one [X] u (by simpa [itCells] using hu)) (by unfold maxLen; omega) (by omega) (by omega)
  rcases ho.2 with ⟨-, h0⟩ | ⟨g, cap, cur, rfl, _⟩
  · omega
  · have hat' : v.ownBlock = some g ∨ g = Z.heap.size := by
      rcases hat with h | h
      · exact .inl h.symm
      · exact .inr (by injection h)
    refine ⟨_, w', fun ty => hr, push_row hrow' (RepP.mono (fun b ⟨h1, h2, h3⟩ => ⟨h1, by omega, h3⟩) (fun p ⟨_, h2, _⟩ => hb.cell h2) _ _ _ hX) ho hg hat', ?_⟩
    refine ⟨below_of_grown (hb.mono hbase) (by omega) hg (fun k hk => (hrow.lt k hk).1), fun k hk hne => ?_, ?_⟩
    · rw [hg.block k (by omega) (fun e => hne e.symm), hb.block k hk]
    · rcases hat' with h | h
      · left; rw [h]; rfl
      · right; intro k hk; have : g = k := by injection hk
        omega
/-- .. a term that was made since -/
theorem rowT_addN' {w w1 : World} {base : Nat} {v : Value} {its : List It} (hrow : RowT w base (fun b => base ≤ b) v its) (hbase : base ≤ w.heap.size) (hl : Below w.heap.size w w1) (X : It)
    (hX : RepP w1 (fun b => w.heap.size ≤ b ∧ b < w1.heap.size) X.1 X.2.1 X.2.2) (hlen : its.length + 1 ≤ 100000000) :
    ∃ v' w', (∀ ty, (Builtin.append_ #[33, 33] ty #[v, .slice (some ⟨w1.heap.size, 0, none⟩) 1 1]).run Tryd.prog (w1.alloc (.cells #[.int .i64 X.1.kind, .string X.1.name, .int .i64 X.1.sort, .slice X.2.1 X.1.kids.length X.2.2] 35)) = .ok v' w') ∧
      RowT w' base (fun b => base ≤ b) v' (its ++ [X]) ∧ Below base w w' ∧ (∀ k, k < w.heap.size → v.ownBlock ≠ some k → w'.heap[k]? = w.heap[k]?) ∧ (v'.ownBlock = v.ownBlock ∨ ∀ k, v'.ownBlock = some k → w.heap.size ≤ k) := by
  have hs := hl.size
  obtain ⟨v', w', h1, h2, h3, h4, h5⟩ := rowT_add1' (hrow.below hl) (by omega) X (RepP.mono (fun b ⟨g1, g2⟩ => ⟨by omega, g2, fun e => by have := (hrow.lt b e).2; omega⟩) (fun _ _ => rfl) _ _ _ hX) hlen
  exact ⟨v', w', h1, h2, (hl.mono hbase).trans h3, fun k hk hne => (h4 k (by omega) hne).trans (hl.block k hk), h5.imp id (fun h k hk => Nat.le_trans hs (h k hk))⟩

/-- .. a term that was made since -/
theorem rowT_addN {w w1 : World} {base : Nat} {v : Value} {its : List It} (hrow : RowT w base (fun b => base ≤ b) v its) (hbase : base ≤ w.heap.size) (hl : Below w.heap.size w w1) (X : It)
    (hX : RepP w1 (fun b => w.heap.size ≤ b ∧ b < w1.heap.size) X.1 X.2.1 X.2.2) (hlen : its.length + 1 ≤ 100000000) :
    ∃ v' w', (∀ ty, (Builtin.append_ #[33, 33] ty #[v, .slice (some ⟨w1.heap.size, 0, none⟩) 1 1]).run Tryd.prog (w1.alloc (.cells #[.int .i64 X.1.kind, .string X.1.name, .int .i64 X.1.sort, .slice X.2.1 X.1.kids.length X.2.2] 35)) = .ok v' w') ∧
      RowT w' base (fun b => base ≤ b) v' (its ++ [X]) ∧ Below base w w' := by
  obtain ⟨v', w', h1, h2, h3, -⟩ := rowT_addN' hrow hbase hl X hX hlen
  exact ⟨v', w', h1, h2, h3⟩

/-- these terms are returned, in a row from block base on -/
def RowOf (w : World) (base : Nat) (l : List Tm) (e : Ending) (w' : World) : Prop :=
  ∃ v its, e = .returned v ∧ RowT w' base (fun b => base ≤ b) v its ∧ its.map (·.1) = l ∧ Below base w w'

set_option maxHeartbeats 4000000 in
set_option maxRecDepth 100000 in
theorem belong_any (ags bad sm : List ByteArray) (Aa Ab As : Option Addr) (ca cb cs : Nat) (w : World) (hc : CastW w ags bad Aa ca Ab cb) (hs : RepN w (fun b => b < w.heap.size) sm As cs) (h6 : ags.length ≤ 6) :
    Calls Tryd.prog 68 #[castV ags bad Aa ca Ab cb, .slice As sm.length cs] w (RowOf w w.heap.size (keysK ags sm ags)) := by
  obtain ⟨W0, hW0⟩ : ∃ W0, W0 = w.alloc (.cells #[.slice Aa ags.length ca, .slice Ab bad.length cb] 24) := ⟨_, rfl⟩
  have hl0 : Below w.heap.size w W0 := by rw [hW0]; exact below1 (Nat.le_refl _) _
  have hx0 : W0.heap[w.heap.size]? = some (boxC ags bad Aa ca Ab cb) := by rw [hW0]; exact heap_alloc_new _ _
  have hs0 : w.heap.size < W0.heap.size := by rw [hW0]; simp
  have HC0 := Lib.hid (hc.below hl0)
  have HM0 := Lib.hid (hs.go hl0 hl0.size)
  obtain ⟨b0, b1, -⟩ := boxC_cells hx0
  have HL0 := Lib.hid hl0; have HX0 := Lib.hid hx0; have HS0 := Lib.hid hs0; have HW0 := Lib.hid hW0
  clear hl0 hx0 hs0 hW0 hc hs
  unfold castV
  go_enter Tryd.func68, Tryd.ntmps68
  go_wp2_with fail
  rw [← HW0.out]
  go_loopw [5, 13] (fun v i wr => ∃ (k : Nat) (its : List It), k ≤ ags.length ∧ i = .int .i64 k ∧ Hid (RowT wr W0.heap.size (fun b => W0.heap.size ≤ b) v its) ∧ Hid (its.map (·.1) = keysK ags sm (ags.take k)) ∧ Hid (Below W0.heap.size W0 wr)) (fun _ i _ => ags.length - (intOf i).toNat)
  case atStart => exact ⟨0, [], Nat.zero_le _, rfl, RowT.nil _ _ _, rfl, Below.refl _ _⟩
  case round =>
    obtain ⟨k, its, hk, rfl, HROW, HITS, HB⟩ := hrel
    have i1 : (0 : Int) ≤ (k : Int) := Int.natCast_nonneg _
    have hcw := HC0.out.below HB.out
    have hmw := HM0.out.go HB.out HB.out.size
    have hbx : wr.heap[w.heap.size]? = some (boxC ags bad Aa ca Ab cb) := by rw [HB.out.block _ HS0.out]; exact HX0.out
    obtain ⟨b0', b1', -⟩ := boxC_cells hbx
    have hil : its.length ≤ 49 := by
      have h1 := congrArg List.length HITS.out
      have h2 := keysK_length ags sm (ags.take k)
      rw [List.length_map] at h1
      have h3 : (ags.take k).length * (1 + ags.length) ≤ 6 * (1 + 6) := Nat.mul_le_mul (by rw [List.length_take]; omega) (by omega)
      omega
    by_cases hlt : k < ags.length
    · have i2 : (k : Int) < (ags.length : Int) := by omega
      obtain ⟨b, off, hAa, hbl, hcl⟩ := hcw.a.cells (by intro h; rw [h] at hlt; simp at hlt)
      subst hAa
      have hck := hcl k hlt
      have hsz := hcw.a.2.2.1 ags[k] (List.getElem_mem hlt)
      have hks := keysK_succ ags sm ags k hlt
      have hct := containsN sm As cs ags[k] wr hmw
      obtain ⟨a, ha⟩ : ∃ a, a = ags[k] := ⟨_, rfl⟩
      rw [← ha] at hck hsz hks hct
      have HCT := Lib.hid hct; have HKS := Lib.hid hks; have HSZ := Lib.hid hsz
      clear ha hcl hct hks hsz hmw hcw hbx
      -- what stands before the inner loop
      have HEAD : ∃ (q : Bool), q = hasS sm a := ⟨_, rfl⟩
      obtain ⟨q, hq⟩ := HEAD
      rw [← hq] at HCT
      have HQ := Lib.hid hq; clear hq
      obtain ⟨L0, hL0⟩ : ∃ L0, L0 = keysK ags sm (ags.take k) ++ (if q = true then [skT a] else []) := ⟨_, rfl⟩
      have HKS2 : Hid (keysK ags sm (ags.take (k + 1)) = L0 ++ ags.flatMap (cellK sm a)) := by
        show _ = _; rw [HKS.out, hL0, rowK, ← HQ.out, List.append_assoc]
      clear HKS
      have HL0' := Lib.hid hL0; clear hL0
      have FIN : ∀ (v : Value) (its : List It) (wq : World), Hid (RowT wq W0.heap.size (fun b => W0.heap.size ≤ b) v its) → Hid (its.map (·.1) = L0) → Hid (Below W0.heap.size W0 wq) → True := fun _ _ _ _ _ _ => trivial
      clear FIN
      cases q
      case' true =>
        go_wp2_with fail
        refine HCT.out.mono ?_
        rintro e w1 ⟨rfl, rfl⟩
        go_wp2_with fail
        refine (private_any a HSZ.out _).mono ?_
        rintro e w2 ⟨A1, c1, rfl, hr1, hl1⟩
        obtain ⟨v3, w3, hap, hrow3, hb3⟩ := rowT_addN HROW.out HB.out.size hl1 (skT a, A1, c1) hr1 (by omega)
        have HROW3 := Lib.hid hrow3
        have HB3 := Lib.hid (HB.out.trans hb3)
        have HI3 : Hid ((its ++ [(skT a, A1, c1)]).map (·.1) = L0) := by
          show _ = _; rw [List.map_append, HITS.out, HL0'.out]; rfl
        have hil3 : (its ++ [(skT a, A1, c1)]).length ≤ 50 := by simp; omega
        have hcw := HC0.out.below HB3.out
        have hbx : w3.heap[w.heap.size]? = some (boxC ags bad (some ⟨b, off, none⟩) ca Ab cb) := by rw [HB3.out.block _ HS0.out]; exact HX0.out
        obtain ⟨d0, d1, -⟩ := boxC_cells hbx
        generalize its ++ [(skT a, A1, c1)] = its3 at *
        clear hrow3 hb3 hr1 hl1 hbx hcw HROW HITS HB hil hck b0' b1' HCT HL0'
        simp only [skT, Tm.val, Tm.kind, Tm.name, Tm.sort, Tm.kids] at hap ⊢
        go_wp2_with (at_builtin; refine wpList_run_append rfl _ _ rfl rfl rfl hap ?_)
        clear hap
      case' false =>
        go_wp2_with fail
        refine HCT.out.mono ?_
        rintro e w3 ⟨rfl, rfl⟩
        have HI3 : Hid (its.map (·.1) = L0) := by
          show _ = _; rw [HITS.out, HL0'.out]; exact (List.append_nil _).symm
        have hil3 : its.length ≤ 50 := by omega
        go_wp2_with fail
        have HROW3 := HROW
        have HB3 := HB
        clear HITS hil hck HCT HL0' HROW HB b0' b1'
        generalize its = its3 at *
        generalize u5 = v3 at *
      all_goals
        go_loopw [5, 28] (fun v j wq => ∃ (m : Nat) (itm : List It), m ≤ ags.length ∧ j = .int .i64 m ∧ Hid (RowT wq W0.heap.size (fun b => W0.heap.size ≤ b) v itm) ∧ Hid (itm.map (·.1) = L0 ++ (ags.take m).flatMap (cellK sm a)) ∧ itm.length ≤ its3.length + m ∧ Hid (Below W0.heap.size W0 wq)) (fun _ j _ => ags.length - (intOf j).toNat)
        case atStart => exact ⟨0, its3, Nat.zero_le _, rfl, HROW3.out, by show _ = _; rw [HI3.out]; exact (List.append_nil _).symm, by omega, HB3.out⟩
        case round =>
          obtain ⟨m, itm, hm, rfl, HROW, HITS, hlm, HB⟩ := hrel
          have j1 : (0 : Int) ≤ (m : Int) := Int.natCast_nonneg _
          clear HROW3 HI3 HB3
          try clear d0 d1
          have hcw := HC0.out.below HB.out
          have hmw := HM0.out.go HB.out HB.out.size
          have hbx : wr.heap[w.heap.size]? = some (boxC ags bad (some ⟨b, off, none⟩) ca Ab cb) := by rw [HB.out.block _ HS0.out]; exact HX0.out
          obtain ⟨e0, e1, -⟩ := boxC_cells hbx
          by_cases hltm : m < ags.length
          · have j2 : (m : Int) < (ags.length : Int) := by omega
            obtain ⟨b', off', hAe, -, hcl⟩ := hcw.a.cells (by intro h; rw [h] at hltm; simp at hltm)
            injection hAe with hAe
            injection hAe with h1 h2
            subst h1 h2
            have hcm := hcl m hltm
            have hsz := hcw.a.2.2.1 ags[m] (List.getElem_mem hltm)
            have hms := cells_succ sm ags a m hltm
            have hca := containsN sm As cs a wr hmw
            have hcb := containsN sm As cs ags[m] wr hmw
            obtain ⟨d, hd⟩ : ∃ d, d = ags[m] := ⟨_, rfl⟩
            rw [← hd] at hcm hsz hms hcb
            have HCA := Lib.hid hca; have HCB := Lib.hid hcb; have HMS := Lib.hid hms; have HSD := Lib.hid hsz
            clear hd hcl hca hcb hms hsz hmw hcw hbx
            by_cases had : a = d
            · subst had
              have HNX : Hid ((ags.take (m + 1)).flatMap (cellK sm a) = (ags.take m).flatMap (cellK sm a)) := by
                show _ = _; rw [HMS.out, cellK, if_neg (by simp), List.append_nil]
              have hne : (a.toList != a.toList) = false := by simp
              clear HMS HCB
              go_wp2_with fail
              go_roundw
              case rel => exact ⟨m + 1, itm, by omega, by go_num, HROW.out, by show _ = _; rw [HITS.out, HNX.out], by omega, HB.out⟩
              case measure => simp [intOf]; omega
            · have hbq : (a.toList == d.toList) = false := by rw [Lib.bytes_beq_false_iff]; exact had
              have hne : (a.toList != d.toList) = true := by unfold bne; rw [hbq]; rfl
              have hne2 : ¬ a.toList = d.toList := by rw [← beq_iff_eq, hbq]; simp
              have HCELL : Hid (cellK sm a d = if hasS sm a || hasS sm d then [shT a d] else []) := by
                show _ = _; rw [cellK, decide_eq_true had, Bool.true_and]
              cases h1 : hasS sm a with
              | true =>
                rw [h1] at HCA HCELL
                rw [Bool.true_or, if_pos rfl] at HCELL
                clear HCB h1
                go_wp2_with fail
                refine HCA.out.mono ?_
                rintro e w1 ⟨rfl, rfl⟩
                go_wp2_with fail
                refine (shared_any a d HSZ.out HSD.out _).mono ?_
                rintro e w2 ⟨A1, c1, rfl, hr1, hl1⟩
                obtain ⟨v3, w3, hap, hrow3, hb3⟩ := rowT_addN HROW.out HB.out.size hl1 (shT a d, A1, c1) hr1 (by omega)
                have HROW3 := Lib.hid hrow3
                have HB3 := Lib.hid (HB.out.trans hb3)
                have HI3 : Hid ((itm ++ [(shT a d, A1, c1)]).map (·.1) = L0 ++ (ags.take (m + 1)).flatMap (cellK sm a)) := by
                  show _ = _; rw [List.map_append, HITS.out, HMS.out, List.append_assoc, HCELL.out]; rfl
                have hil4 : (itm ++ [(shT a d, A1, c1)]).length ≤ its3.length + (m + 1) := by simp; omega
                generalize itm ++ [(shT a d, A1, c1)] = its4 at *
                clear hrow3 hb3 hr1 hl1 HROW HITS HB HMS HCELL
                simp only [shT, Tm.val, Tm.kind, Tm.name, Tm.sort, Tm.kids] at hap ⊢
                go_wp2_with (at_builtin; refine wpList_run_append rfl _ _ rfl rfl rfl hap ?_)
                clear hap
                go_roundw
                case rel => exact ⟨m + 1, its4, by omega, by go_num, HROW3.out, HI3.out, hil4, HB3.out⟩
                case measure => simp [intOf]; omega
              | false =>
                rw [h1] at HCA HCELL
                rw [Bool.false_or] at HCELL
                clear h1
                cases h2 : hasS sm d with
                | true =>
                  rw [h2] at HCB HCELL
                  rw [if_pos rfl] at HCELL
                  clear h2
                  go_wp2_with fail
                  refine HCA.out.mono ?_
                  rintro e w1 ⟨rfl, rfl⟩
                  go_wp2_with fail
                  refine HCB.out.mono ?_
                  rintro e w1' ⟨rfl, rfl⟩
                  go_wp2_with fail
                  refine (shared_any a d HSZ.out HSD.out _).mono ?_
                  rintro e w2 ⟨A1, c1, rfl, hr1, hl1⟩
                  obtain ⟨v3, w3, hap, hrow3, hb3⟩ := rowT_addN HROW.out HB.out.size hl1 (shT a d, A1, c1) hr1 (by omega)
                  have HROW3 := Lib.hid hrow3
                  have HB3 := Lib.hid (HB.out.trans hb3)
                  have HI3 : Hid ((itm ++ [(shT a d, A1, c1)]).map (·.1) = L0 ++ (ags.take (m + 1)).flatMap (cellK sm a)) := by
                    show _ = _; rw [List.map_append, HITS.out, HMS.out, List.append_assoc, HCELL.out]; rfl
                  have hil4 : (itm ++ [(shT a d, A1, c1)]).length ≤ its3.length + (m + 1) := by simp; omega
                  generalize itm ++ [(shT a d, A1, c1)] = its4 at *
                  clear hrow3 hb3 hr1 hl1 HROW HITS HB HMS HCELL
                  simp only [shT, Tm.val, Tm.kind, Tm.name, Tm.sort, Tm.kids] at hap ⊢
                  go_wp2_with (at_builtin; refine wpList_run_append rfl _ _ rfl rfl rfl hap ?_)
                  clear hap
                  go_roundw
                  case rel => exact ⟨m + 1, its4, by omega, by go_num, HROW3.out, HI3.out, hil4, HB3.out⟩
                  case measure => simp [intOf]; omega
                | false =>
                  rw [h2] at HCB HCELL
                  rw [if_neg (by simp)] at HCELL
                  clear h2
                  have HNX : Hid ((ags.take (m + 1)).flatMap (cellK sm a) = (ags.take m).flatMap (cellK sm a)) := by
                    show _ = _; rw [HMS.out, HCELL.out, List.append_nil]
                  clear HMS HCELL
                  go_wp2_with fail
                  refine HCA.out.mono ?_
                  rintro e w1 ⟨rfl, rfl⟩
                  go_wp2_with fail
                  refine HCB.out.mono ?_
                  rintro e w1' ⟨rfl, rfl⟩
                  go_wp2_with fail
                  go_roundw
                  case rel => exact ⟨m + 1, itm, by omega, by go_num, HROW.out, by show _ = _; rw [HITS.out, HNX.out], by omega, HB.out⟩
                  case measure => simp [intOf]; omega
          · obtain rfl : m = ags.length := by omega
            have HL : Hid (itm.map (·.1) = keysK ags sm (ags.take (k + 1))) := by
              show _ = _; rw [HITS.out, HKS2.out, List.take_length]
            clear hcw hmw hbx HITS
            go_wp2_with fail
            go_roundw
            case rel => exact ⟨k + 1, itm, by omega, by go_num, HROW.out, HL.out, HB.out⟩
            case measure => simp [intOf]; omega
    · obtain rfl : k = ags.length := by omega
      have HI : Hid (its.map (·.1) = keysK ags sm ags) := by have := HITS.out; rw [List.take_length] at this; exact this
      clear HITS hcw hmw hbx
      go_wp2_with fail
      go_ret
      exact ⟨_, its, rfl, HROW.out.loosen (Nat.le_of_lt HS0.out) (fun b h => by have := HS0.out; omega), HI.out, HL0.out.trans (HB.out.mono (Nat.le_of_lt HS0.out))⟩

set_option maxHeartbeats 2000000 in
set_option maxRecDepth 100000 in
/-- the public keys behind a row, and all in order -/
theorem cwith_any (ags bad : List ByteArray) (Aa Ab : Option Addr) (ca cb base : Nat) (v : Value) (its : List It) (w : World) (hbase : base ≤ w.heap.size) (hc : RepN w (fun b => b < base) ags Aa ca) (h6 : ags.length ≤ 6)
    (hrow : RowT w base (fun b => base ≤ b) v its) (hil : its.length ≤ 100) (hsz : ∀ x ∈ its, x.1.size ≤ 1000) :
    Calls Tryd.prog 67 #[castV ags bad Aa ca Ab cb, v] w (RowOf w base (Tm.set (its.map (·.1) ++ pubsK ags))) := by
  obtain ⟨W0, hW0⟩ : ∃ W0, W0 = w.alloc (.cells #[.slice Aa ags.length ca, .slice Ab bad.length cb] 24) := ⟨_, rfl⟩
  have hl0 : Below w.heap.size w W0 := by rw [hW0]; exact below1 (Nat.le_refl _) _
  have hx0 : W0.heap[w.heap.size]? = some (boxC ags bad Aa ca Ab cb) := by rw [hW0]; exact heap_alloc_new _ _
  have hs0 : w.heap.size < W0.heap.size := by rw [hW0]; simp
  have HC0 := Lib.hid (hc.below (hl0.mono hbase))
  have HR0 := Lib.hid (hrow.below hl0)
  have HOW : Hid (∀ k, v.ownBlock = some k → k < w.heap.size) := Lib.hid fun k hk => (hrow.lt k hk).2
  obtain ⟨b0, b1, -⟩ := boxC_cells hx0
  have HL0 := Lib.hid (hl0.mono hbase); have HX0 := Lib.hid hx0; have HS0 := Lib.hid hs0; have HW0 := Lib.hid hW0
  have HSZ : Hid (∀ x ∈ its.map (·.1), x.size ≤ 1000) := Lib.hid fun x hx => by obtain ⟨y, hy, rfl⟩ := List.mem_map.1 hx; exact hsz y hy
  have HBA := Lib.hid hbase
  clear hl0 hx0 hs0 hW0 hc hrow hsz
  obtain ⟨its0, hits0⟩ : ∃ x, x = its := ⟨_, rfl⟩
  rw [← hits0] at HR0 HSZ hil ⊢
  clear hits0 its
  unfold castV
  go_enter Tryd.func67, Tryd.ntmps67
  go_wp2_with fail
  rw [← HW0.out]
  go_loopw [1, 10] (fun v i wr => ∃ (k : Nat) (its : List It), k ≤ ags.length ∧ i = .int .i64 k ∧ its.length = its0.length + k ∧ Hid (RowT wr base (fun b => base ≤ b) v its) ∧ Hid (its.map (·.1) = its0.map (·.1) ++ pubsK (ags.take k)) ∧ Hid (Below base W0 wr) ∧
      Hid (wr.heap[w.heap.size]? = some (boxC ags bad Aa ca Ab cb)) ∧ Hid (v.ownBlock ≠ some w.heap.size)) (fun _ i _ => ags.length - (intOf i).toNat)
  case atStart => exact ⟨0, its0, Nat.zero_le _, rfl, rfl, HR0.out, by simp [pubsK, Hid], Below.refl _ _, HX0.out, fun e => by have := HOW.out _ e; omega⟩
  case round =>
    obtain ⟨k, its, hk, rfl, hlk, HROW, HITS, HB, HBX, HOB⟩ := hrel
    have i1 : (0 : Int) ≤ (k : Int) := Int.natCast_nonneg _
    have hcw := HC0.out.below HB.out
    obtain ⟨b0', b1', -⟩ := boxC_cells HBX.out
    by_cases hlt : k < ags.length
    · have i2 : (k : Int) < (ags.length : Int) := by omega
      obtain ⟨b, off, hAa, hbl, hcl⟩ := hcw.cells (by intro h; rw [h] at hlt; simp at hlt)
      subst hAa
      have hck := hcl k hlt
      have hsz := hcw.2.2.1 ags[k] (List.getElem_mem hlt)
      have hks := pubsK_succ ags k hlt
      obtain ⟨a, ha⟩ : ∃ a, a = ags[k] := ⟨_, rfl⟩
      rw [← ha] at hck hsz hks
      have HKS := Lib.hid hks; have HSA := Lib.hid hsz
      clear ha hcl hks hsz hcw
      have hws : w.heap.size < wr.heap.size := by have := HS0.out; have := HB.out.size; omega
      have HWS := Lib.hid hws; clear hws
      go_wp2_with fail
      refine (public_any a HSA.out _).mono ?_
      rintro e w2 ⟨A1, c1, rfl, hr1, hl1⟩
      obtain ⟨v3, w3, hap, hrow3, hb3, hoth, hown⟩ := rowT_addN' HROW.out (by have := HBA.out; have := HWS.out; omega) hl1 (pkT a, A1, c1) hr1 (by omega)
      have HROW3 := Lib.hid hrow3
      have HB3 := Lib.hid (HB.out.trans hb3)
      have HBX3 := Lib.hid ((hoth _ HWS.out HOB.out).trans HBX.out)
      have HOB3 : Hid (v3.ownBlock ≠ some w.heap.size) := Lib.hid fun e => by
        rcases hown with h | h
        · rw [h] at e; exact HOB.out e
        · have := h _ e; have := HWS.out; omega
      have HI3 : Hid ((its ++ [(pkT a, A1, c1)]).map (·.1) = its0.map (·.1) ++ pubsK (ags.take (k + 1))) := by
        show _ = _; rw [List.map_append, HITS.out, HKS.out, List.append_assoc]; rfl
      have hil3 : (its ++ [(pkT a, A1, c1)]).length = its0.length + (k + 1) := by simp; omega
      generalize its ++ [(pkT a, A1, c1)] = its3 at *
      have HLL := Lib.hid hil3
      clear hrow3 hb3 hr1 hl1 hoth hown HROW HITS HB HBX HOB hlk hil3 hck b0' b1'
      simp only [pkT, Tm.val, Tm.kind, Tm.name, Tm.sort, Tm.kids] at hap ⊢
      go_wp2_with (at_builtin; refine wpList_run_append rfl _ _ rfl rfl rfl hap ?_)
      clear hap
      go_roundw
      case rel => exact ⟨k + 1, its3, by omega, by go_num, HLL.out, HROW3.out, HI3.out, HB3.out, HBX3.out, HOB3.out⟩
      case measure => simp [intOf]; omega
    · obtain rfl : k = ags.length := by omega
      have HI : Hid (its.map (·.1) = its0.map (·.1) ++ pubsK ags) := by have := HITS.out; rw [List.take_length] at this; exact this
      have hset := cset_any wr base (fun b => base ≤ b) u1 its (by omega) HROW.out (fun x hx => by
        have hm : x.1 ∈ its.map (·.1) := List.mem_map_of_mem hx
        rw [HI.out, List.mem_append] at hm
        rcases hm with h | h
        · have := HSZ.out _ h; omega
        · have := pubsK_small _ _ h; omega)
      have HSET := Lib.hid hset
      have HWS : Hid (base ≤ wr.heap.size) := Lib.hid (by have := HS0.out; have := HB.out.size; have := HBA.out; omega)
      have HOW2 : Hid (∀ k, u1.ownBlock = some k → base ≤ k) := Lib.hid fun k hk => (HROW.out.lt k hk).1
      clear HITS hcw hset HROW HBX HOB b0' b1'
      go_wp2_with fail
      refine HSET.out.mono ?_
      rintro e w4 ⟨v4, its4, rfl, hrow4, hi4, hg4, ho4⟩
      have HROW4 := Lib.hid hrow4; have HI4 := Lib.hid hi4; have HG4 := Lib.hid hg4
      clear hrow4 hi4 hg4 ho4 HSET
      go_wp2_with fail
      go_ret
      refine ⟨_, its4, rfl, HROW4.out, by rw [HI4.out, HI.out], below_of_grown (HL0.out.trans HB.out) HWS.out HG4.out HOW2.out⟩
end Go.Proofs.YtpjmdilpldaapaaDoor
