/- The reference's longer. -/
import Derived.Test.YtkbkgiihgghbeaaGreatDoorSzrename
namespace Go.Proofs.YtkbkgiihgghbeaaGreatDoor
open Go.RowKit Go.Sort

/-- one term appended to a row, out of a block that is laid for it; the terms may lie anywhere but in the row's own block -/
theorem rowT_more2 {w : World} {base : Nat} {F : Nat → Prop} {v : Value} {its : List It} (hrow : RowT w base F v its) (hbase : base ≤ w.heap.size) (X : It) (hX : RepP w (fun b => F b ∧ b < w.heap.size ∧ v.ownBlock ≠ some b) X.1 X.2.1 X.2.2) (hlen : its.length + 1 ≤ 100000000) :
    ∃ A' c' w', (∀ ty, (Builtin.append_ #[22, 22] ty #[v, .slice (some ⟨w.heap.size, 0, none⟩) 1 1]).run Tryz.prog (w.alloc (.cells #[.int .i64 X.1.kind, .string X.1.name, .int .i64 X.1.sort, .slice X.2.1 X.1.kids.length X.2.2] 24)) = .ok (.slice A' (its.length + 1) c') w') ∧
      RowT w' base F (.slice A' (its.length + 1) c') (its ++ [X]) ∧ w.heap.size ≤ w'.heap.size ∧ (∀ W0 B0, Below B0 W0 w → B0 ≤ base → Below B0 W0 w') := by
  have hb := below1 (Nat.le_refl w.heap.size) (.cells #[.int .i64 X.1.kind, .string X.1.name, .int .i64 X.1.sort, .slice X.2.1 X.1.kids.length X.2.2] 24)
  obtain ⟨g, cap, w', e1, e2, e3, e4⟩ := (hrow.below hb).grow1 (by simp; omega) X w.heap.size 1 (0, 0) (heap_alloc_new _ _)
    (RepP.mono (fun b ⟨h0, h1, h2⟩ => ⟨h0, by simp; omega, h2⟩) (fun p ⟨_, h1, _⟩ => hb.cell h1) _ _ _ hX) hlen
  refine ⟨_, cap, w', e1, e2, by have := e3.size; simp at this; omega, fun W0 B0 hB hB0 => ?_⟩
  exact below_of_grown (hB.alloc (by omega) _) (by simp; omega) e3 (fun k hk => by have := (hrow.lt k hk).1; omega)

theorem check_name {k : Int} {n : ByteArray} {so : Int} {l : List Tm} (h : (Tm.mk k n so l).check = 0) : n.size ≤ 24 ∧ ∀ t ∈ l, t.check = 0 := by
  have hn : nameL n.data.toList = true → n.size ≤ 24 := fun h => by
    rw [size_list]
    exact Classical.byContradiction fun h2 => by rw [nameL_false (.inl (by omega))] at h; cases h
  have hk : ∀ {l : List Tm}, Tm.checks l = 0 → ∀ t ∈ l, t.check = 0 := by
    intro l
    induction l with
    | nil => intro _ t ht; simp at ht
    | cons x r ih =>
      intro h t ht
      rw [Tm.checks] at h
      split at h
      · rename_i g; exact absurd h g
      · rename_i g
        rcases List.mem_cons.1 ht with rfl | ht
        · exact Classical.byContradiction g
        · exact ih h t ht
  rw [Tm.check] at h
  split at h
  · split at h
    · omega
    · rename_i g
      split at h
      · omega
      · rename_i g2
        refine ⟨hn (by simpa using g2), fun t ht => ?_⟩
        have : l = [] := Classical.byContradiction fun e => g (.inr (.inr e))
        rw [this] at ht; simp at ht
  · split at h
    · split at h
      · omega
      · split at h
        · omega
        · rename_i g2
          split at h
          · omega
          · exact ⟨hn (by simpa using g2), hk h⟩
    · omega
theorem longs_take_succ (sf : ByteArray) (l : List Tm) (k : Nat) (h : k < l.length) : longs sf (l.take (k + 1)) = (longs sf (l.take k) && longE sf l[k]) := by
  have app : ∀ a b : List Tm, longs sf (a ++ b) = (longs sf a && longs sf b) := by
    intro a b
    induction a with
    | nil => simp [longs]
    | cons x r ih => simp only [List.cons_append, longs, ih, Bool.and_assoc]
  rw [List.take_succ_eq_append_getElem h, app]
  simp [longs]
theorem rens_take_succ (sf : ByteArray) (l : List Tm) (k : Nat) (h : k < l.length) : rens sf (l.take (k + 1)) = rens sf (l.take k) ++ [renE sf l[k]] := by
  rw [rens_eq, rens_eq, List.take_succ_eq_append_getElem h, List.map_append]; rfl

def LongRel (w : World) (tk : Int) (tn nm : ByteArray) (ts : Int) (l : List Tm) (A : Option Addr) (cap : Nat) (sf : ByteArray) (k : Nat) (v : Value) (its : List It) (wr : World) : Prop :=
  its.map (·.1) = rens sf (l.take k) ∧ wr.heap[w.heap.size]? = some (.cells #[.int .i64 tk, .string tn, .int .i64 ts, .slice A l.length cap] 24 (0, 0)) ∧
  wr.heap[w.heap.size + 1]? = some (.cells #[.int .i64 0, .string ⟨#[]⟩, .int .i64 0, .slice none 0 0] 24 (0, 0)) ∧
  wr.heap[w.heap.size + 2]? = some (.cells #[.int .i64 tk, .string nm, .int .i64 ts, v] 24 (0, 0)) ∧
  RowT wr (w.heap.size + 3) (fun b => w.heap.size + 3 ≤ b) v its ∧ Below w.heap.size w wr ∧ w.heap.size + 3 ≤ wr.heap.size
def Longer (sf : ByteArray) (t : Tm) (w : World) (e : Ending) (w' : World) : Prop :=
  ∃ A c, e = .returned (.tuple #[(renE sf t).val A c, .bool (longE sf t)]) ∧ RepP w' (fun b => w.heap.size ≤ b ∧ b < w'.heap.size) (renE sf t) A c ∧ Below w.heap.size w w'

set_option maxHeartbeats 4000000 in
set_option maxRecDepth 100000 in
theorem rlonger_any (sf : ByteArray) (hsf : sf.size ≤ 1000) (n : Nat) : ∀ (t : Tm) (A : Option Addr) (cap : Nat) (w : World), t.size ≤ n → n ≤ 1000000 → t.check = 0 → RepT w w.heap.size t A cap →
    Calls Tryz.prog 33 #[t.val A cap, .string sf] w (Longer sf t w) := by
  have mixed : Tryz.prog.follows .mixedOrders = true := by kernel_rfl
  induction n with
  | zero => intro t _ _ _ h; have := t.size_pos; omega
  | succ n ih =>
    intro t A cap w hn hb hck hrep
    obtain ⟨tk, tn, ts, l⟩ := t
    have IH := Lib.hid ih; clear ih
    obtain ⟨hn24, hkc⟩ := check_name hck
    have HKC := Lib.hid hkc; clear hkc hck
    rw [Tm.size] at hn
    rw [RepT_mk] at hrep
    obtain ⟨hr1, hr2, hr3, hr4⟩ := hrep
    unfold maxLen at hr1 hr3
    have hls := Tm.length_le_sizes l
    have hsa : (tn ++ sf).size = tn.size + sf.size := ByteArray.size_append ..
    have hs24 : tn.size + sf.size ≤ 2000 := by omega
    simp only [Tm.val, Tm.kind, Tm.name, Tm.sort, Tm.kids]
    go_enter Tryz.func33, Tryz.ntmps33
    by_cases hk : tk = 1
    · have kq : (tk == 1) = true := by rw [beq_iff_eq]; exact hk
      clear hk
      obtain ⟨q0, hq0⟩ : ∃ q, q = decide ((tn.size : Int) + sf.size ≤ 24) := ⟨_, rfl⟩
      have hq1 : q0 = decide (tn.size + sf.size ≤ 24) := by rw [hq0]; exact decide_eq_decide.2 (by omega)
      have HQ0 := Lib.hid hq0; clear hq0
      have hr : renE sf (.mk tk tn ts l) = .mk tk (tn ++ sf) ts (rens sf l) := by rw [renE, if_pos (by simpa using kq)]
      have hrq : longE sf (.mk tk tn ts l) = (q0 && longs sf l) := by
        rw [longE, hq1]
        have : tk = 1 := by simpa using kq
        simp [this]
      clear hq1
      have HRE := Lib.hid hr; clear hr
      have HRQ := Lib.hid hrq; clear hrq
      go_wp2_with fail
      go_loopw [7, 8] (fun okv i wr => ∃ (k : Nat) (v : Value) (its : List It) (qk : Bool), k ≤ l.length ∧ i = .int .i64 k ∧ okv = .bool qk ∧ Hid (qk = (q0 && longs sf (l.take k))) ∧ LongRel w tk tn (tn ++ sf) ts l A cap sf k v its wr) (fun _ i _ => l.length - (intOf i).toNat)
      case atStart =>
        refine ⟨0, .slice none 0 0, [], (decide ((tn.size : Int) + sf.size ≤ 24)), Nat.zero_le _, rfl, rfl, by show _ = _; rw [← HQ0.out]; simp [longs], rfl, ?_, ?_, ?_, RowT.nil _ _ _, (((Below.refl _ _).alloc (Nat.le_refl _) _).alloc (by simp) _).alloc (by simp; omega) _, by simp⟩
        · rw [Below.heap_alloc _ _ _ (by simp; omega), Below.heap_alloc _ _ _ (by simp)]; exact heap_alloc_new _ _
        · rw [Below.heap_alloc _ _ _ (by simp)]
          have h := heap_alloc_new (w.alloc (.cells #[.int .i64 tk, .string tn, .int .i64 ts, .slice A l.length cap] 24)) (.cells #[.int .i64 0, .string ⟨#[]⟩, .int .i64 0, .slice none 0 0] 24)
          rw [World.size_alloc] at h; exact h
        · have h := heap_alloc_new ((w.alloc (.cells #[.int .i64 tk, .string tn, .int .i64 ts, .slice A l.length cap] 24)).alloc (.cells #[.int .i64 0, .string ⟨#[]⟩, .int .i64 0, .slice none 0 0] 24)) (.cells #[.int .i64 tk, .string (tn ++ sf), .int .i64 ts, .slice none 0 0] 24)
          rw [World.size_alloc, World.size_alloc] at h; exact h
      case round =>
        obtain ⟨k, v, its, qk, hk, rfl, rfl, HQK, hits, hB1, hB2, hB3, hrow, hbel, hsz⟩ := hrel
        obtain ⟨a0, a1, a2, a3, af⟩ := box_at hB1
        obtain ⟨b0, b1, b2, b3, bf⟩ := box_at hB2
        obtain ⟨d0, d1, d2, d3, df⟩ := box_at hB3
        have HB1 := Lib.hid hB1; clear hB1
        have HB2 := Lib.hid hB2; clear hB2
        have HB3 := Lib.hid hB3; clear hB3
        have HITS := Lib.hid hits; clear hits
        have i1 : (0 : Int) ≤ (k : Int) := Int.natCast_nonneg _
        by_cases hlt : k < l.length
        · have i2 : (k : Int) < (l.length : Int) := by omega
          rcases hr4 with rfl | ⟨b, off, rfl, hbB, hl⟩
          · simp at hlt
          obtain ⟨A', cap', h0, h1, h2, h3, h5⟩ := (hl.below hbel hbB).get k hlt
          have hsg := Tm.sizes_get l k hlt
          have HC := IH.out l[k] A' cap' wr (by omega) (by omega) (HKC.out _ (List.getElem_mem _)) (h5.go (Below.refl _ _) (by omega))
          unfold Longer at HC
          have hlen : its.length + 1 ≤ 100000000 := by
            have h := congrArg List.length HITS.out
            rw [rens_length] at h
            simp at h; omega
          have hnr := rens_take_succ sf l k hlt
          have hnl := longs_take_succ sf l k hlt
          rw [← HITS.out] at hnr
          obtain ⟨u, hu⟩ : ∃ u, u = renE sf l[k] := ⟨_, rfl⟩
          obtain ⟨qi, hqi⟩ : ∃ q, q = longE sf l[k] := ⟨_, rfl⟩
          rw [← hu] at HC hnr
          rw [← hqi] at HC hnl
          have HNR := Lib.hid hnr; clear hnr hu
          have HNL : Hid ((q0 && longs sf (l.take (k + 1))) = (qk && qi)) := by rw [hnl, HQK.out, Bool.and_assoc]; exact rfl
          clear hnl hqi h5 hl bf b0 b1 b2 b3
          have HC := Lib.hid HC
          simp only [Tm.val] at HC
          go_wp2_with fail
          refine HC.out.mono ?_; clear HC
          rintro e w1 ⟨A1, c1, rfl, hre, hb1⟩
          have hs1 := hb1.size
          obtain ⟨X, hX⟩ : ∃ X, X = w1.alloc (.cells #[.int .i64 u.kind, .string u.name, .int .i64 u.sort, .slice A1 u.kids.length c1] 24) := ⟨_, rfl⟩
          have hbX : Below w1.heap.size w1 X := by rw [hX]; exact below1 (Nat.le_refl _) _
          have hux : X.heap[w1.heap.size]? = some (.cells #[.int .i64 u.kind, .string u.name, .int .i64 u.sort, .slice A1 u.kids.length c1] 24 (0, 0)) := by rw [hX]; exact heap_alloc_new _ _
          have hwX := below_then hb1 hbX hs1
          obtain ⟨A5, c5, w5, hap, hr5, hg5, hb5⟩ := rowT_more2 (hrow.below hwX) (by have := hwX.size; omega) (u, A1, c1)
            (RepP.mono (fun b ⟨g1, g2⟩ => ⟨by omega, by have := hbX.size; omega, fun e => by have := (hrow.lt b e).2; omega⟩) (fun p ⟨_, g2⟩ => hbX.cell g2) _ _ _ hre) hlen
          have hB5 := hb5 _ (w.heap.size + 3) (hwX.mono hsz) (Nat.le_refl _)
          have hd5 := (hB5.block (w.heap.size + 2) (by omega)).trans HB3.out
          have hX3 := (hwX.block (w.heap.size + 2) (by omega)).trans HB3.out
          obtain ⟨f0, f1, f2, f3, ff⟩ := box_at hd5
          obtain ⟨g0, g1, g2, g3, -⟩ := box_at hX3
          obtain ⟨x0, x1, x2, x3, -⟩ := box_at hux
          have ht5 := (hB5.block w.heap.size (by omega)).trans HB1.out
          have hz5 := (hB5.block (w.heap.size + 1) (by omega)).trans HB2.out
          have HT5 := Lib.hid ht5; clear ht5
          have HZ5 := Lib.hid hz5; clear hz5
          have HD5 := Lib.hid hd5; clear hd5
          have HR5 := Lib.hid hr5; clear hr5
          have HB5 := Lib.hid hB5
          have HBW5 := Lib.hid (hbel.trans (hB5.mono (by omega)))
          have hs5 : w.heap.size + 3 ≤ w5.heap.size := by have := hB5.size; omega
          dsimp only at hap
          rw [hX] at hap g0 g1 g2 g3 x0 x1 x2 x3
          rw [World.size_alloc] at hap
          clear hX hux hX3 hbX hwX hb5 hB5 hb1 hre hg5 hs1
          clear a0 a1 a2 a3 af d0 d1 d2 d3 df h0 h1 h2 h3
          cases qk
          all_goals
            go_wp2_with (at_builtin; refine wpList_run_append rfl _ _ rfl rfl rfl hap ?_)
            go_roundw
            case rel =>
              refine ⟨k + 1, .slice A5 (its.length + 1) c5, its ++ [(u, A1, c1)], _, by omega, by go_num, rfl, HNL.out.symm, ?_, ?_, ?_, ?_, ?_, ?_, ?_⟩
              · rw [List.map_append, HNR.out]; rfl
              · rw [Below.heap_setCell _ _ _ _ (by simp <;> omega)]; exact HT5.out
              · rw [Below.heap_setCell _ _ _ _ (by simp)]; exact HZ5.out
              · exact heap_set3 HD5.out
              · exact HR5.out.setCell (by simp) (by simp) _
              · exact Below.setCell HBW5.out (by simp; omega) _
              · simp [World.setCell]; omega
            case measure => simp [intOf]; omega
        · obtain rfl : k = l.length := by omega
          have hmap := HITS.out
          have hqk := HQK.out
          simp only [List.take_length] at hmap hqk
          obtain ⟨Av, cv, rfl, hS⟩ := hrow.toS (P := fun b => w.heap.size + 3 ≤ b ∧ b < wr.heap.size) (fun b h h' => ⟨h, h'⟩) (fun b h h' => ⟨h, h'⟩)
          rw [hmap] at hS
          have hlen2 : its.length = (rens sf l).length := by rw [← hmap]; simp
          have HS := Lib.hid hS; clear hS
          have HLEN := Lib.hid hlen2; clear hlen2 hmap
          have HROW := Lib.hid hrow; clear hrow
          have HQQ := Lib.hid hqk; clear hqk
          go_wp2_with fail
          refine bodyPost_ret (v := .tuple #[.agg #[.int .i64 tk, .string (tn ++ sf), .int .i64 ts, .slice Av its.length cv], .bool qk]) ?_ rfl ?_
          · simp [results, Tryz.results33, go_sem, b0, b1, b2, b3]
          have hne : ∀ p : Addr, w.heap.size + 3 ≤ p.block → ∀ o, (⟨w.heap.size + 1, o, none⟩ : Addr) ≠ p := fun p hp o e => by rw [← e] at hp; simp at hp
          refine ⟨Av, cv, by rw [HRE.out, HRQ.out, HQQ.out, HLEN.out]; rfl, ?_, ?_⟩
          · rw [HRE.out, RepP_mk]
            refine ⟨by unfold maxLen; omega, RepS.mono ?_ ?_ HS.out⟩
            · rintro b ⟨h, h'⟩; exact ⟨by omega, by simpa [World.setCell] using h'⟩
            · rintro p ⟨hp, _⟩
              have hne := hne p hp
              rw [World.cell?_setCell_other _ _ _ _ (hne _), World.cell?_setCell_other _ _ _ _ (hne _), World.cell?_setCell_other _ _ _ _ (hne _), World.cell?_setCell_other _ _ _ _ (hne _)]
          · iterate 4 refine Below.setCell ?_ (by simp) _
            exact hbel
    · have kq : (tk == 1) = false := by rw [beq_eq_false_iff_ne]; exact hk
      clear hk
      obtain ⟨q0, hq0⟩ : ∃ q, q = true := ⟨_, rfl⟩
      have HQ0 := Lib.hid hq0
      have hr : renE sf (.mk tk tn ts l) = .mk tk tn ts (rens sf l) := by rw [renE, if_neg (by simpa using kq)]
      have hrq : longE sf (.mk tk tn ts l) = (q0 && longs sf l) := by
        rw [longE, hq0]
        have : tk ≠ 1 := by simpa using kq
        simp [this]
      clear hq0
      have HRE := Lib.hid hr; clear hr
      have HRQ := Lib.hid hrq; clear hrq
      go_wp2_with fail
      go_loopw [7, 8] (fun okv i wr => ∃ (k : Nat) (v : Value) (its : List It) (qk : Bool), k ≤ l.length ∧ i = .int .i64 k ∧ okv = .bool qk ∧ Hid (qk = (q0 && longs sf (l.take k))) ∧ LongRel w tk tn tn ts l A cap sf k v its wr) (fun _ i _ => l.length - (intOf i).toNat)
      case atStart =>
        refine ⟨0, .slice none 0 0, [], true, Nat.zero_le _, rfl, rfl, by show _ = _; rw [← HQ0.out]; simp [longs], rfl, ?_, ?_, ?_, RowT.nil _ _ _, (((Below.refl _ _).alloc (Nat.le_refl _) _).alloc (by simp) _).alloc (by simp; omega) _, by simp⟩
        · rw [Below.heap_alloc _ _ _ (by simp; omega), Below.heap_alloc _ _ _ (by simp)]; exact heap_alloc_new _ _
        · rw [Below.heap_alloc _ _ _ (by simp)]
          have h := heap_alloc_new (w.alloc (.cells #[.int .i64 tk, .string tn, .int .i64 ts, .slice A l.length cap] 24)) (.cells #[.int .i64 0, .string ⟨#[]⟩, .int .i64 0, .slice none 0 0] 24)
          rw [World.size_alloc] at h; exact h
        · have h := heap_alloc_new ((w.alloc (.cells #[.int .i64 tk, .string tn, .int .i64 ts, .slice A l.length cap] 24)).alloc (.cells #[.int .i64 0, .string ⟨#[]⟩, .int .i64 0, .slice none 0 0] 24)) (.cells #[.int .i64 tk, .string tn, .int .i64 ts, .slice none 0 0] 24)
          rw [World.size_alloc, World.size_alloc] at h; exact h
      case round =>
        obtain ⟨k, v, its, qk, hk, rfl, rfl, HQK, hits, hB1, hB2, hB3, hrow, hbel, hsz⟩ := hrel
        obtain ⟨a0, a1, a2, a3, af⟩ := box_at hB1
        obtain ⟨b0, b1, b2, b3, bf⟩ := box_at hB2
        obtain ⟨d0, d1, d2, d3, df⟩ := box_at hB3
        have HB1 := Lib.hid hB1; clear hB1
        have HB2 := Lib.hid hB2; clear hB2
        have HB3 := Lib.hid hB3; clear hB3
        have HITS := Lib.hid hits; clear hits
        have i1 : (0 : Int) ≤ (k : Int) := Int.natCast_nonneg _
        by_cases hlt : k < l.length
        · have i2 : (k : Int) < (l.length : Int) := by omega
          rcases hr4 with rfl | ⟨b, off, rfl, hbB, hl⟩
          · simp at hlt
          obtain ⟨A', cap', h0, h1, h2, h3, h5⟩ := (hl.below hbel hbB).get k hlt
          have hsg := Tm.sizes_get l k hlt
          have HC := IH.out l[k] A' cap' wr (by omega) (by omega) (HKC.out _ (List.getElem_mem _)) (h5.go (Below.refl _ _) (by omega))
          unfold Longer at HC
          have hlen : its.length + 1 ≤ 100000000 := by
            have h := congrArg List.length HITS.out
            rw [rens_length] at h
            simp at h; omega
          have hnr := rens_take_succ sf l k hlt
          have hnl := longs_take_succ sf l k hlt
          rw [← HITS.out] at hnr
          obtain ⟨u, hu⟩ : ∃ u, u = renE sf l[k] := ⟨_, rfl⟩
          obtain ⟨qi, hqi⟩ : ∃ q, q = longE sf l[k] := ⟨_, rfl⟩
          rw [← hu] at HC hnr
          rw [← hqi] at HC hnl
          have HNR := Lib.hid hnr; clear hnr hu
          have HNL : Hid ((q0 && longs sf (l.take (k + 1))) = (qk && qi)) := by rw [hnl, HQK.out, Bool.and_assoc]; exact rfl
          clear hnl hqi h5 hl bf b0 b1 b2 b3
          have HC := Lib.hid HC
          simp only [Tm.val] at HC
          go_wp2_with fail
          refine HC.out.mono ?_; clear HC
          rintro e w1 ⟨A1, c1, rfl, hre, hb1⟩
          have hs1 := hb1.size
          obtain ⟨X, hX⟩ : ∃ X, X = w1.alloc (.cells #[.int .i64 u.kind, .string u.name, .int .i64 u.sort, .slice A1 u.kids.length c1] 24) := ⟨_, rfl⟩
          have hbX : Below w1.heap.size w1 X := by rw [hX]; exact below1 (Nat.le_refl _) _
          have hux : X.heap[w1.heap.size]? = some (.cells #[.int .i64 u.kind, .string u.name, .int .i64 u.sort, .slice A1 u.kids.length c1] 24 (0, 0)) := by rw [hX]; exact heap_alloc_new _ _
          have hwX := below_then hb1 hbX hs1
          obtain ⟨A5, c5, w5, hap, hr5, hg5, hb5⟩ := rowT_more2 (hrow.below hwX) (by have := hwX.size; omega) (u, A1, c1)
            (RepP.mono (fun b ⟨g1, g2⟩ => ⟨by omega, by have := hbX.size; omega, fun e => by have := (hrow.lt b e).2; omega⟩) (fun p ⟨_, g2⟩ => hbX.cell g2) _ _ _ hre) hlen
          have hB5 := hb5 _ (w.heap.size + 3) (hwX.mono hsz) (Nat.le_refl _)
          have hd5 := (hB5.block (w.heap.size + 2) (by omega)).trans HB3.out
          have hX3 := (hwX.block (w.heap.size + 2) (by omega)).trans HB3.out
          obtain ⟨f0, f1, f2, f3, ff⟩ := box_at hd5
          obtain ⟨g0, g1, g2, g3, -⟩ := box_at hX3
          obtain ⟨x0, x1, x2, x3, -⟩ := box_at hux
          have ht5 := (hB5.block w.heap.size (by omega)).trans HB1.out
          have hz5 := (hB5.block (w.heap.size + 1) (by omega)).trans HB2.out
          have HT5 := Lib.hid ht5; clear ht5
          have HZ5 := Lib.hid hz5; clear hz5
          have HD5 := Lib.hid hd5; clear hd5
          have HR5 := Lib.hid hr5; clear hr5
          have HB5 := Lib.hid hB5
          have HBW5 := Lib.hid (hbel.trans (hB5.mono (by omega)))
          have hs5 : w.heap.size + 3 ≤ w5.heap.size := by have := hB5.size; omega
          dsimp only at hap
          rw [hX] at hap g0 g1 g2 g3 x0 x1 x2 x3
          rw [World.size_alloc] at hap
          clear hX hux hX3 hbX hwX hb5 hB5 hb1 hre hg5 hs1
          clear a0 a1 a2 a3 af d0 d1 d2 d3 df h0 h1 h2 h3
          cases qk
          all_goals
            go_wp2_with (at_builtin; refine wpList_run_append rfl _ _ rfl rfl rfl hap ?_)
            go_roundw
            case rel =>
              refine ⟨k + 1, .slice A5 (its.length + 1) c5, its ++ [(u, A1, c1)], _, by omega, by go_num, rfl, HNL.out.symm, ?_, ?_, ?_, ?_, ?_, ?_, ?_⟩
              · rw [List.map_append, HNR.out]; rfl
              · rw [Below.heap_setCell _ _ _ _ (by simp <;> omega)]; exact HT5.out
              · rw [Below.heap_setCell _ _ _ _ (by simp)]; exact HZ5.out
              · exact heap_set3 HD5.out
              · exact HR5.out.setCell (by simp) (by simp) _
              · exact Below.setCell HBW5.out (by simp; omega) _
              · simp [World.setCell]; omega
            case measure => simp [intOf]; omega
        · obtain rfl : k = l.length := by omega
          have hmap := HITS.out
          have hqk := HQK.out
          simp only [List.take_length] at hmap hqk
          obtain ⟨Av, cv, rfl, hS⟩ := hrow.toS (P := fun b => w.heap.size + 3 ≤ b ∧ b < wr.heap.size) (fun b h h' => ⟨h, h'⟩) (fun b h h' => ⟨h, h'⟩)
          rw [hmap] at hS
          have hlen2 : its.length = (rens sf l).length := by rw [← hmap]; simp
          have HS := Lib.hid hS; clear hS
          have HLEN := Lib.hid hlen2; clear hlen2 hmap
          have HROW := Lib.hid hrow; clear hrow
          have HQQ := Lib.hid hqk; clear hqk
          go_wp2_with fail
          refine bodyPost_ret (v := .tuple #[.agg #[.int .i64 tk, .string tn, .int .i64 ts, .slice Av its.length cv], .bool qk]) ?_ rfl ?_
          · simp [results, Tryz.results33, go_sem, b0, b1, b2, b3]
          have hne : ∀ p : Addr, w.heap.size + 3 ≤ p.block → ∀ o, (⟨w.heap.size + 1, o, none⟩ : Addr) ≠ p := fun p hp o e => by rw [← e] at hp; simp at hp
          refine ⟨Av, cv, by rw [HRE.out, HRQ.out, HQQ.out, HLEN.out]; rfl, ?_, ?_⟩
          · rw [HRE.out, RepP_mk]
            refine ⟨by unfold maxLen; omega, RepS.mono ?_ ?_ HS.out⟩
            · rintro b ⟨h, h'⟩; exact ⟨by omega, by simpa [World.setCell] using h'⟩
            · rintro p ⟨hp, _⟩
              have hne := hne p hp
              rw [World.cell?_setCell_other _ _ _ _ (hne _), World.cell?_setCell_other _ _ _ _ (hne _), World.cell?_setCell_other _ _ _ _ (hne _), World.cell?_setCell_other _ _ _ _ (hne _)]
          · iterate 4 refine Below.setCell ?_ (by simp) _
            exact hbel
end Go.Proofs.YtkbkgiihgghbeaaGreatDoor
