/- term.clone: a copy in new memory. -/
import Derived.Test.YtbgkabgbgbebaaaDoorRow
import Derived.Test.YtbgkabgbgbebaaaDoorMix
import Derived.WalkSpells
import Derived.Lib.Hide
namespace Go.Proofs.YtbgkabgbgbebaaaDoor
open Go.RowKit

def Fresh (t : Tm) (w : World) (e : Ending) (w' : World) : Prop :=
  ∃ A cap, e = .returned (.agg #[.int .i64 t.kind, .string t.name, .int .i64 t.sort, .slice A t.kids.length cap]) ∧ RepP w' (fun b => w.heap.size ≤ b ∧ b < w'.heap.size) t A cap ∧ Below w.heap.size w w'

def CloneRel (w : World) (tk : Int) (tn : ByteArray) (ts : Int) (l : List Tm) (k : Nat) (v : Value) (its : List It) (wr : World) : Prop :=
  its.map (·.1) = l.take k ∧ wr.heap[w.heap.size]? = some (.cells #[.int .i64 tk, .string tn, .int .i64 ts, v] 24 (0, 0)) ∧
  wr.heap[w.heap.size + 1]? = some (.cells #[.int .i64 0, .string ⟨#[]⟩, .int .i64 0, .slice none 0 0] 24 (0, 0)) ∧
  RowT wr (w.heap.size + 2) (fun b => w.heap.size + 2 ≤ b) v its ∧ Below w.heap.size w wr ∧ w.heap.size + 2 ≤ wr.heap.size

theorem fresh_item {wr X w1 : World} {base : Nat} {v : Value} {its : List It} {t : Tm} {A : Option Addr} {cap : Nat} {o : Obj} (hrow : RowT wr base (fun b => base ≤ b) v its)
    (h : RepP w1 (fun b => X.heap.size ≤ b ∧ b < w1.heap.size) t A cap) (hX : wr.heap.size ≤ X.heap.size) (hb : base ≤ wr.heap.size) :
    RepP (w1.alloc o) (fun b => base ≤ b ∧ b < (w1.alloc o).heap.size ∧ v.ownBlock ≠ some b) t A cap := by
  refine RepP.mono ?_ ?_ _ _ _ h
  · rintro b ⟨h1, h2⟩
    refine ⟨by omega, by simp; omega, fun e => ?_⟩
    have := (hrow.lt b e).2; omega
  · rintro p ⟨h1, h2⟩
    exact World.cell?_of_block (Below.heap_alloc _ _ _ h2)

theorem fresh_end {w wr wE : World} {k s : Int} {n : ByteArray} {l : List Tm} {A : Option Addr} {c m B : Nat} (hn : n.size ≤ maxLen) (hm : m = l.length)
    (hS : RepS wr (fun b => B ≤ b ∧ b < wr.heap.size) l A c) (hc : ∀ p : Addr, B ≤ p.block → wE.cell? p = wr.cell? p) (hs : wE.heap.size = wr.heap.size) (hB : w.heap.size ≤ B) (hb : Below w.heap.size w wE) :
    Fresh (.mk k n s l) w (.returned (.agg #[.int .i64 k, .string n, .int .i64 s, .slice A m c])) wE := by
  subst hm
  refine ⟨A, c, rfl, ?_, hb⟩
  rw [RepP_mk]
  have h := RepS.mono (w' := wE) (P' := fun b => w.heap.size ≤ b ∧ b < wE.heap.size) (fun b ⟨h, h'⟩ => ⟨by omega, by omega⟩) (fun p ⟨h, _⟩ => hc p h) hS
  exact ⟨hn, h⟩

set_option maxHeartbeats 4000000 in
set_option maxRecDepth 100000 in
theorem clone_any (n : Nat) : ∀ (t : Tm) (A : Option Addr) (cap : Nat) (w : World), t.size ≤ n → n ≤ 1000000 → RepT w w.heap.size t A cap →
    Calls Tryd.prog 52 #[t.val A cap] w (Fresh t w) := by
  induction n with
  | zero => intro t _ _ _ h; have := t.size_pos; omega
  | succ n ih =>
    intro t A cap w hn hb hrep
    obtain ⟨tk, tn, ts, l⟩ := t
    rw [Tm.size] at hn
    rw [RepT_mk] at hrep
    obtain ⟨hr1, hr2, hr3, hr4⟩ := hrep
    obtain ⟨i0, hi0, hz0, hz1, hz2⟩ := info_parts termInfo
    simp only [Tm.val, Tm.kind, Tm.name, Tm.sort, Tm.kids]
    unfold maxLen at hr1 hr3
    go_enter Tryd.func52, Tryd.ntmps52
    go_wp2_with fail
    go_loopw [11] (fun i wr => ∃ (k : Nat) (v : Value) (its : List It), k ≤ l.length ∧ i = .int .i64 k ∧ CloneRel w tk tn ts l k v its wr)
      (fun i _ => l.length - (intOf i).toNat)
    case atStart =>
      refine ⟨0, .slice none 0 0, [], Nat.zero_le _, rfl, rfl, ?_, ?_, RowT.nil _ _ _, ((Below.refl _ _).alloc (Nat.le_refl _) _).alloc (by simp) _, by simp⟩
      · rw [Below.heap_alloc _ _ _ (by simp)]; exact heap_alloc_new _ _
      · have h := heap_alloc_new (w.alloc (.cells #[.int .i64 tk, .string tn, .int .i64 ts, .slice none 0 0] 24)) (.cells #[.int .i64 0, .string ⟨#[]⟩, .int .i64 0, .slice none 0 0] 24)
        rw [World.size_alloc] at h; exact h
    case round =>
      obtain ⟨k, v, its, hk, rfl, hrel⟩ := hrel
      obtain ⟨hits, hB1, hB2, hrow, hbel, hsz⟩ := hrel
      obtain ⟨a0, a1, a2, a3, af⟩ := box_at hB1
      obtain ⟨b0, b1, b2, b3, bf⟩ := box_at hB2
      have HB1 := Lib.hid hB1; clear hB1
      have HB2 := Lib.hid hB2; clear hB2
      have HITS := Lib.hid hits; clear hits
      by_cases hlt : k < l.length
      · rcases hr4 with rfl | ⟨b, off, rfl, hbB, hl⟩
        · simp at hlt
        obtain ⟨A', cap', h0, h1, h2, h3, h5⟩ := (hl.below hbel hbB).get k hlt
        have hsg := Tm.sizes_get l k hlt
        have HC : Hid (∀ X, Below wr.heap.size wr X → wr.heap.size < X.heap.size → Calls Tryd.prog 52 #[l[k].val A' cap'] X (Fresh l[k] X)) := fun X hX hX' => ih l[k] A' cap' X (by omega) (by omega) (h5.go (hX.mono (by omega)) (by omega))
        clear h5 bf b0 b1 b2 b3
        have hne1 : v.ownBlock ≠ some w.heap.size := fun e => by have := (hrow.lt _ e).1; omega
        have hne2 : v.ownBlock ≠ some wr.heap.size := fun e => by have := (hrow.lt _ e).2; omega
        have hva : ∀ o, (wr.alloc o).cell? ⟨w.heap.size, 3, none⟩ = some v := fun o => ((below1 (Nat.le_refl _) o).cell (by show w.heap.size < _; omega)).trans a3
        have hlen : its.length + 1 ≤ 100000000 := by
          have h := congrArg List.length HITS.out
          have := Tm.length_le_sizes l
          simp at h; omega
        go_wp2_with fail
        simp only [Tm.val] at HC
        refine wp_region_mix (fun w' => w'.cell? ⟨w.heap.size, 3, none⟩ = some v ∧ w'.cell? ⟨wr.heap.size, 0, none⟩ = some (.int .i64 l[k].kind) ∧ w'.cell? ⟨wr.heap.size, 1, none⟩ = some (.string l[k].name) ∧ w'.cell? ⟨wr.heap.size, 2, none⟩ = some (.int .i64 l[k].sort) ∧ w'.cell? ⟨wr.heap.size, 3, none⟩ = some (.slice A' l[k].kids.length cap'))
          6 (.held 0 (.held 1 (.held 2 (.op 3 (.op 4 (.op 5 (.op 6 (.op 7 .nil)))))))) (by kernel_rfl) (by kernel_rfl) ?_
        refine mix_take (v := .pointer (some ⟨w.heap.size, 3, none⟩)) rfl rfl (fun _ _ _ h => h) (by simp [hva]) (fun w' hS => by go_simp) ?_
        refine mix_take (v := v) rfl rfl (fun _ _ _ h => h) (by simp [hva]) (fun w' hS => by obtain ⟨g0, g1, g2, g3, g4⟩ := hS; simp only [Act.put]; go_simp) ?_
        refine mix_take (v := .agg #[.int .i64 l[k].kind, .string l[k].name, .int .i64 l[k].sort, .slice A' l[k].kids.length cap']) rfl rfl (fun _ _ _ h => h) (by simp [hva]) (fun w' hS => by obtain ⟨g0, g1, g2, g3, g4⟩ := hS; simp only [Act.put]; go_simp) ?_
        simp only [Act.put, List.setIfInBounds_toArray]
        refine mix_op rfl rfl (fun K hK => ?_)
        go_wp2_with fail
        refine (HC.out _ ((Below.refl _ _).alloc (Nat.le_refl _) _).drew (by simp)).mono ?_
        rintro e w1 ⟨A1, cap1, rfl, hre, hb1⟩
        have hwb1 := ((Below.refl _ _).alloc (Nat.le_refl _) _).drew.trans (hb1.mono (by simp))
        have hs1 : wr.heap.size + 1 ≤ w1.heap.size := by have := hb1.size; simpa using this
        have hv1 : w1.cell? ⟨w.heap.size, 3, none⟩ = some v := (hwb1.cell (by show w.heap.size < _; omega)).trans a3
        refine hK _ _ ⟨fun _ => ?_, ?_⟩
        · refine ⟨hv1, ?_, ?_, ?_, ?_⟩ <;> (rw [hb1.cell (by simp)]; simp)
        clear hK K
        refine mix_op rfl rfl (fun K hK => ?_)
        go_wp2_with fail
        refine ⟨fun _ => ?_, ?_⟩
        · refine ⟨?_, ?_, ?_, ?_, ?_⟩ <;> rw [(below1 (Nat.le_refl _) _).cell (by simp; omega)]
          · exact hv1
          all_goals (rw [hb1.cell (by simp)]; simp)
        refine mix_op rfl rfl (fun K hK => ?_)
        refine wp_push (by rfl) (.tmp 16) (.tmp 19) (by rfl) (w.heap.size + 2) (fun b => w.heap.size + 2 ≤ b) v its (by rfl) ((hrow.below hwb1).alloc _) (l[k], A1, cap1) _ _ (0, 0) (by rfl) (by exact heap_alloc_new _ _) (by exact fresh_item hrow hre (by simp) (by omega)) hlen (by simp; omega) ?_
        intro g cap2 w2 hrow2 hgr hat hbg
        have hw2s : w1.heap.size + 1 ≤ w2.heap.size := by have := hgr.size; simpa using this
        have hw2 : ∀ o, w2.cell? ⟨w.heap.size, o, none⟩ = wr.cell? ⟨w.heap.size, o, none⟩ := fun o => by
          rw [hgr.cell_far _ (by simp; omega) hne1.symm, (below1 (Nat.le_refl _) _).cell (by show w.heap.size < _; omega), hwb1.cell (by show w.heap.size < _; omega)]
        have hw2f : w2.frozen? ⟨w.heap.size, 3, none⟩ = false := by
          rw [hgr.frozen_far _ (by simp; omega) hne1.symm, (below1 (Nat.le_refl _) _).frozen (by show w.heap.size < _; omega), hwb1.frozen (by show w.heap.size < _; omega)]; exact af 3
        have hv2 : w2.cell? ⟨w.heap.size, 3, none⟩ = some v := (hw2 3).trans a3
        refine hK _ _ ⟨fun _ => ⟨hv2, ?_, ?_, ?_, ?_⟩, ?_⟩
        iterate 4 (rw [hgr.cell_far _ (by simp; omega) hne2.symm, (below1 (Nat.le_refl _) _).cell (by show wr.heap.size < _; omega), hb1.cell (by simp)]; simp)
        clear hK K
        simp only [Act.put, List.setIfInBounds_toArray]
        refine mix_op rfl rfl (fun K hK => ?_)
        go_wp2_with fail
        refine ⟨fun h => absurd h (by decide), ?_⟩
        refine mix_op rfl rfl (fun K hK => ?_)
        go_wp2_with fail
        refine ⟨fun h => absurd h (by decide), ?_⟩
        refine mix_nil ?_
        have hblk : ∀ b, b < w.heap.size + 2 → w2.heap[b]? = wr.heap[b]? := fun b hb => by
          rw [hgr.block b (by simp; omega) (fun e => by have := (hrow.lt _ e.symm).1; omega), Below.heap_alloc _ _ _ (by omega), hwb1.block b (by omega)]
        have HBLK := Lib.hid hblk; clear hblk
        go_wp2_with fail
        go_roundw
        case rel =>
          refine ⟨k + 1, .slice (some ⟨g, 0, none⟩) (its.length + 1) cap2, its ++ [(l[k], A1, cap1)], by omega, by go_num, ?_, ?_, ?_, ?_, ?_, ?_⟩
          · rw [List.map_append, HITS.out, List.take_succ_eq_append_getElem hlt]; rfl
          · exact heap_set3 ((HBLK.out _ (by omega)).trans HB1.out)
          · rw [Below.heap_setCell _ _ _ _ (by simp)]; exact (HBLK.out _ (by omega)).trans HB2.out
          · exact hrow2.setCell (by simp) (by simp) _
          · refine Below.setCell ?_ (by simp) _
            exact ((hbel.trans (hwb1.mono (by omega))).alloc (by omega) _).grown hgr (by simp; omega) (fun j e => by have := (hrow.lt _ e).1; omega)
          · simp [World.setCell]; omega
        case measure => simp [intOf]; omega
      · obtain rfl : k = l.length := by omega
        have hmap := HITS.out
        simp only [List.take_length] at hmap
        obtain ⟨Av, cv, rfl, hS⟩ := hrow.toS (P := fun b => w.heap.size + 2 ≤ b ∧ b < wr.heap.size) (fun b h h' => ⟨h, h'⟩) (fun b h h' => ⟨h, h'⟩)
        rw [hmap] at hS
        have HS := Lib.hid hS; clear hS
        have HMAP := Lib.hid hmap; clear hmap
        have HROW := Lib.hid hrow; clear hrow
        go_wp2_with fail
        refine bodyPost_ret (v := .agg #[.int .i64 tk, .string tn, .int .i64 ts, .slice Av its.length cv]) ?_ rfl ?_
        · simp [results, Tryd.results52, go_sem, b0, b1, b2, b3]
        refine fresh_end (by unfold maxLen; omega) (by rw [← congrArg List.length HMAP.out]; simp) HS.out (fun p hp => ?_) (by simp [World.setCell]) (by omega) ?_
        · have hne : ∀ o, (⟨w.heap.size + 1, o, none⟩ : Addr) ≠ p := fun o e => by rw [← e] at hp; simp at hp
          rw [World.cell?_setCell_other _ _ _ _ (hne _), World.cell?_setCell_other _ _ _ _ (hne _), World.cell?_setCell_other _ _ _ _ (hne _), World.cell?_setCell_other _ _ _ _ (hne _)]
        · iterate 4 refine Below.setCell ?_ (by simp) _
          exact hbel
end Go.Proofs.YtbgkabgbgbebaaaDoor
