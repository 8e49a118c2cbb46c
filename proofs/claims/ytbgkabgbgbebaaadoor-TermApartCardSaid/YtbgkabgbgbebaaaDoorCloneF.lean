/- term.clone: the copy's parts lie apart from one another. -/
import Derived.Test.YtbgkabgbgbebaaaDoorSep
import Derived.Test.YtbgkabgbgbebaaaDoorClone
import Derived.WalkSpells
import Derived.Lib.Hide
namespace Go.Proofs.YtbgkabgbgbebaaaDoor
open Go.RowKit

def FreshF (t : Tm) (w : World) (e : Ending) (w' : World) : Prop :=
  ∃ A cap fp, e = .returned (.agg #[.int .i64 t.kind, .string t.name, .int .i64 t.sort, .slice A t.kids.length cap]) ∧ RepF w' t A cap fp ∧ fp.Nodup ∧ (∀ b ∈ fp, w.heap.size ≤ b ∧ b < w'.heap.size) ∧ Below w.heap.size w w'
def SepIts (w : World) (v : Value) (its : List It) (wr : World) : Prop :=
  ∃ fs, FpIts wr its fs ∧ fs.Nodup ∧ ∀ b ∈ fs, w.heap.size + 2 ≤ b ∧ b < wr.heap.size ∧ v.ownBlock ≠ some b
theorem sep_next {w wr w1 w2 : World} {v : Value} {its : List It} {t : Tm} {A1 : Option Addr} {c1 g n c : Nat} {f1 : List Nat} (hs : SepIts w v its wr)
    (h2 : ∀ b, b < wr.heap.size → v.ownBlock ≠ some b → w2.heap[b]? = wr.heap[b]?) (h3 : ∀ b, wr.heap.size ≤ b → b < w1.heap.size → w2.heap[b]? = w1.heap[b]?)
    (hz1 : wr.heap.size ≤ w1.heap.size) (hz2 : w1.heap.size ≤ w2.heap.size) (hf : RepF w1 t A1 c1 f1) (hnd : f1.Nodup) (hin : ∀ b ∈ f1, wr.heap.size ≤ b ∧ b < w1.heap.size)
    (hat : v.ownBlock = some g ∨ w1.heap.size ≤ g) (hown : ∀ g', v.ownBlock = some g' → g' < wr.heap.size) (hb : w.heap.size + 2 ≤ wr.heap.size) (u : Value) :
    SepIts w (.slice (some ⟨g, 0, none⟩) n c) (its ++ [(t, A1, c1)]) (w2.setCell ⟨w.heap.size, 3, none⟩ u) := by
  obtain ⟨fs, hfs, hn, hall⟩ := hs
  have hset : ∀ b, b ≠ w.heap.size → (w2.setCell ⟨w.heap.size, 3, none⟩ u).heap[b]? = w2.heap[b]? := fun b hb => by
    have : w.heap.size ≠ b := fun e => hb e.symm
    simp [World.setCell, Array.getElem?_modify, this]
  have hsz : (w2.setCell ⟨w.heap.size, 3, none⟩ u).heap.size = w2.heap.size := by simp [World.setCell]
  refine ⟨fs ++ f1, FpIts.snoc (hfs.mono fun q hq => ?_) (RepF.mono _ _ _ _ hf fun q hq => ?_), ?_, fun b hbm => ?_⟩
  · obtain ⟨m1, m2, m3⟩ := hall _ hq
    have e := (hset q.block (by omega)).trans (h2 _ m2 m3)
    exact ⟨World.cell?_of_block e, World.frozen?_of_block e⟩
  · obtain ⟨m1, m2⟩ := hin _ hq
    have e := (hset q.block (by omega)).trans (h3 _ m1 m2)
    exact ⟨World.cell?_of_block e, World.frozen?_of_block e⟩
  · rw [List.nodup_append]
    refine ⟨hn, hnd, fun a ha b hb e => ?_⟩
    subst e
    have := (hall _ ha).2.1
    have := (hin _ hb).1
    omega
  · have hg : ∀ b, (Value.slice (some ⟨g, 0, none⟩) n c).ownBlock = some b → g = b := fun b e => by injection e
    rw [hsz]
    rcases List.mem_append.1 hbm with hm | hm
    · obtain ⟨m1, m2, m3⟩ := hall _ hm
      refine ⟨m1, by omega, fun e => ?_⟩
      have e' := hg _ e
      subst e'
      rcases hat with h | h
      · exact m3 h
      · omega
    · obtain ⟨m1, m2⟩ := hin _ hm
      refine ⟨by omega, by omega, fun e => ?_⟩
      have e' := hg _ e
      subst e'
      rcases hat with h | h
      · have := hown _ h; omega
      · omega
theorem fresh_endF {w wr wE : World} {k s : Int} {n : ByteArray} {l : List Tm} {its : List It} {A : Option Addr} {c : Nat} (hn : n.size ≤ maxLen) (hm : its.map (·.1) = l)
    (hrow : RowT wr (w.heap.size + 2) (fun b => w.heap.size + 2 ≤ b) (.slice A its.length c) its) (hsep : SepIts w (.slice A its.length c) its wr)
    (hc : ∀ b, w.heap.size + 2 ≤ b → wE.heap[b]? = wr.heap[b]?) (hs : wE.heap.size = wr.heap.size) (hb : Below w.heap.size w wE) :
    FreshF (.mk k n s l) w (.returned (.agg #[.int .i64 k, .string n, .int .i64 s, .slice A its.length c])) wE := by
  subst hm
  obtain ⟨fs, hfs, hnd, hall⟩ := hsep
  obtain ⟨A', c', he, hS1, hS2, -⟩ := hrow.toS (P := fun _ => True) (fun _ _ _ => trivial) (fun _ _ _ => trivial)
  injection he with e1 e2 e3
  subst e1 e3
  have hln : its.length = (its.map (·.1)).length := by simp
  rcases hrow.own.2 with ⟨hv, h0⟩ | ⟨g, cap, cur, hv, hg1, hg2, -, -, -⟩
  · have : its = [] := List.eq_nil_of_length_eq_zero h0
    subst this
    refine ⟨A, c, [], rfl, ?_, List.nodup_nil, by simp, hb⟩
    rw [RepF_mk]
    exact ⟨hn, hS1, hS2, .inl ⟨rfl, rfl⟩⟩
  · injection hv with hv1 _ _
    subst hv1
    have hcell : ∀ q : Addr, w.heap.size + 2 ≤ q.block → wE.cell? q = wr.cell? q ∧ wE.frozen? q = wr.frozen? q := fun q hq => ⟨World.cell?_of_block (hc _ hq), World.frozen?_of_block (hc _ hq)⟩
    refine ⟨some ⟨g, 0, none⟩, c, g :: fs, by rw [hln]; rfl, ?_, ?_, ?_, hb⟩
    · rw [RepF_mk]
      refine ⟨hn, hS1, hS2, .inr ⟨g, fs, rfl, rfl, fun o => ?_, ?_⟩⟩
      · rw [(hcell _ hg1).2]; simp [World.frozen?, hg2]
      · refine FpIts.toLF (hfs.mono fun q hq => hcell _ (hall _ hq).1) (fun j u hj => ?_)
        rw [(hcell _ hg1).1]; exact hrow.cells j u hj
    · rw [List.nodup_cons]
      exact ⟨fun hg => (hall _ hg).2.2 rfl, hnd⟩
    · intro b hbm
      rcases List.mem_cons.1 hbm with rfl | hbm
      · have := (Array.getElem?_eq_some_iff.1 hg2).1; omega
      · have := hall _ hbm; omega

set_option maxHeartbeats 4000000 in
set_option maxRecDepth 100000 in
theorem clone_sep (n : Nat) : ∀ (t : Tm) (A : Option Addr) (cap : Nat) (w : World), t.size ≤ n → n ≤ 1000000 → RepT w w.heap.size t A cap →
    Calls Tryd.prog 52 #[t.val A cap] w (FreshF t w) := by
  induction n with
  | zero => intro t _ _ _ h; have := t.size_pos; omega
  | succ n ih =>
    intro t A cap w hn hb hrep
    obtain ⟨tk, tn, ts, l⟩ := t
    rw [Tm.size] at hn
    rw [RepT_mk] at hrep
    obtain ⟨hr1, hr2, hr3, hr4⟩ := hrep
    obtain ⟨i0, hi0, hz0, hz1, hz2⟩ := info_parts termInfo
    simp only [Tm.val, Tm.kind, Tm.name, Tm.sort, Tm.kids]
    unfold maxLen at hr1 hr3
    go_enter Tryd.func52, Tryd.ntmps52
    go_wp2_with fail
    go_loopw [11] (fun i wr => ∃ (k : Nat) (v : Value) (its : List It), k ≤ l.length ∧ i = .int .i64 k ∧ CloneRel w tk tn ts l k v its wr ∧ Hid (SepIts w v its wr))
      (fun i _ => l.length - (intOf i).toNat)
    case atStart =>
      refine ⟨0, .slice none 0 0, [], Nat.zero_le _, rfl, ⟨rfl, ?_, ?_, RowT.nil _ _ _, ((Below.refl _ _).alloc (Nat.le_refl _) _).alloc (by simp) _, by simp⟩, Lib.hid ⟨[], rfl, List.nodup_nil, by simp⟩⟩
      · rw [Below.heap_alloc _ _ _ (by simp)]; exact heap_alloc_new _ _
      · have h := heap_alloc_new (w.alloc (.cells #[.int .i64 tk, .string tn, .int .i64 ts, .slice none 0 0] 24)) (.cells #[.int .i64 0, .string ⟨#[]⟩, .int .i64 0, .slice none 0 0] 24)
        rw [World.size_alloc] at h; exact h
    case round =>
      obtain ⟨k, v, its, hk, rfl, hrel, HSEP⟩ := hrel
      obtain ⟨hits, hB1, hB2, hrow, hbel, hsz⟩ := hrel
      obtain ⟨a0, a1, a2, a3, af⟩ := box_at hB1
      obtain ⟨b0, b1, b2, b3, bf⟩ := box_at hB2
      have HB1 := Lib.hid hB1; clear hB1
      have HB2 := Lib.hid hB2; clear hB2
      have HITS := Lib.hid hits; clear hits
      by_cases hlt : k < l.length
      · rcases hr4 with rfl | ⟨b, off, rfl, hbB, hl⟩
        · simp at hlt
        obtain ⟨A', cap', h0, h1, h2, h3, h5⟩ := (hl.below hbel hbB).get k hlt
        have hsg := Tm.sizes_get l k hlt
        have HC : Hid (∀ X, Below wr.heap.size wr X → wr.heap.size < X.heap.size → Calls Tryd.prog 52 #[l[k].val A' cap'] X (FreshF l[k] X)) := fun X hX hX' => ih l[k] A' cap' X (by omega) (by omega) (h5.go (hX.mono (by omega)) (by omega))
        clear h5 bf b0 b1 b2 b3
        have hne1 : v.ownBlock ≠ some w.heap.size := fun e => by have := (hrow.lt _ e).1; omega
        have hne2 : v.ownBlock ≠ some wr.heap.size := fun e => by have := (hrow.lt _ e).2; omega
        have hva : ∀ o, (wr.alloc o).cell? ⟨w.heap.size, 3, none⟩ = some v := fun o => ((below1 (Nat.le_refl _) o).cell (by show w.heap.size < _; omega)).trans a3
        have hlen : its.length + 1 ≤ 100000000 := by
          have h := congrArg List.length HITS.out
          have := Tm.length_le_sizes l
          simp at h; omega
        go_wp2_with fail
        simp only [Tm.val] at HC
        refine wp_region_mix (fun w' => w'.cell? ⟨w.heap.size, 3, none⟩ = some v ∧ w'.cell? ⟨wr.heap.size, 0, none⟩ = some (.int .i64 l[k].kind) ∧ w'.cell? ⟨wr.heap.size, 1, none⟩ = some (.string l[k].name) ∧ w'.cell? ⟨wr.heap.size, 2, none⟩ = some (.int .i64 l[k].sort) ∧ w'.cell? ⟨wr.heap.size, 3, none⟩ = some (.slice A' l[k].kids.length cap'))
          6 (.held 0 (.held 1 (.held 2 (.op 3 (.op 4 (.op 5 (.op 6 (.op 7 .nil)))))))) (by kernel_rfl) (by kernel_rfl) ?_
        refine mix_take (v := .pointer (some ⟨w.heap.size, 3, none⟩)) rfl rfl (fun _ _ _ h => h) (by simp [hva]) (fun w' hS => by go_simp) ?_
        refine mix_take (v := v) rfl rfl (fun _ _ _ h => h) (by simp [hva]) (fun w' hS => by obtain ⟨g0, g1, g2, g3, g4⟩ := hS; simp only [Act.put]; go_simp) ?_
        refine mix_take (v := .agg #[.int .i64 l[k].kind, .string l[k].name, .int .i64 l[k].sort, .slice A' l[k].kids.length cap']) rfl rfl (fun _ _ _ h => h) (by simp [hva]) (fun w' hS => by obtain ⟨g0, g1, g2, g3, g4⟩ := hS; simp only [Act.put]; go_simp) ?_
        simp only [Act.put, List.setIfInBounds_toArray]
        refine mix_op rfl rfl (fun K hK => ?_)
        go_wp2_with fail
        refine (HC.out _ ((Below.refl _ _).alloc (Nat.le_refl _) _).drew (by simp)).mono ?_
        rintro e w1 ⟨A1, cap1, f1, rfl, hreF, hnd1, hin1, hb1⟩
        have hre := RepF.toP (P := fun b => ((wr.alloc (.cells #[.int .i64 l[k].kind, .string l[k].name, .int .i64 l[k].sort, .slice A' l[k].kids.length cap'] 24)).drew).heap.size ≤ b ∧ b < w1.heap.size) _ _ _ _ hreF hin1
        have HF1 := Lib.hid hreF; clear hreF
        have HIN1 := Lib.hid hin1; clear hin1
        have hwb1 := ((Below.refl _ _).alloc (Nat.le_refl _) _).drew.trans (hb1.mono (by simp))
        have hs1 : wr.heap.size + 1 ≤ w1.heap.size := by have := hb1.size; simpa using this
        have hv1 : w1.cell? ⟨w.heap.size, 3, none⟩ = some v := (hwb1.cell (by show w.heap.size < _; omega)).trans a3
        refine hK _ _ ⟨fun _ => ?_, ?_⟩
        · refine ⟨hv1, ?_, ?_, ?_, ?_⟩ <;> (rw [hb1.cell (by simp)]; simp)
        clear hK K
        refine mix_op rfl rfl (fun K hK => ?_)
        go_wp2_with fail
        refine ⟨fun _ => ?_, ?_⟩
        · refine ⟨?_, ?_, ?_, ?_, ?_⟩ <;> rw [(below1 (Nat.le_refl _) _).cell (by simp; omega)]
          · exact hv1
          all_goals (rw [hb1.cell (by simp)]; simp)
        refine mix_op rfl rfl (fun K hK => ?_)
        refine wp_push (by rfl) (.tmp 16) (.tmp 19) (by rfl) (w.heap.size + 2) (fun b => w.heap.size + 2 ≤ b) v its (by rfl) ((hrow.below hwb1).alloc _) (l[k], A1, cap1) _ _ (0, 0) (by rfl) (by exact heap_alloc_new _ _) (by exact fresh_item hrow hre (by simp) (by omega)) hlen (by simp; omega) ?_
        intro g cap2 w2 hrow2 hgr hat hbg
        have hw2s : w1.heap.size + 1 ≤ w2.heap.size := by have := hgr.size; simpa using this
        have hw2 : ∀ o, w2.cell? ⟨w.heap.size, o, none⟩ = wr.cell? ⟨w.heap.size, o, none⟩ := fun o => by
          rw [hgr.cell_far _ (by simp; omega) hne1.symm, (below1 (Nat.le_refl _) _).cell (by show w.heap.size < _; omega), hwb1.cell (by show w.heap.size < _; omega)]
        have hw2f : w2.frozen? ⟨w.heap.size, 3, none⟩ = false := by
          rw [hgr.frozen_far _ (by simp; omega) hne1.symm, (below1 (Nat.le_refl _) _).frozen (by show w.heap.size < _; omega), hwb1.frozen (by show w.heap.size < _; omega)]; exact af 3
        have hv2 : w2.cell? ⟨w.heap.size, 3, none⟩ = some v := (hw2 3).trans a3
        refine hK _ _ ⟨fun _ => ⟨hv2, ?_, ?_, ?_, ?_⟩, ?_⟩
        iterate 4 (rw [hgr.cell_far _ (by simp; omega) hne2.symm, (below1 (Nat.le_refl _) _).cell (by show wr.heap.size < _; omega), hb1.cell (by simp)]; simp)
        clear hK K
        simp only [Act.put, List.setIfInBounds_toArray]
        refine mix_op rfl rfl (fun K hK => ?_)
        go_wp2_with fail
        refine ⟨fun h => absurd h (by decide), ?_⟩
        refine mix_op rfl rfl (fun K hK => ?_)
        go_wp2_with fail
        refine ⟨fun h => absurd h (by decide), ?_⟩
        refine mix_nil ?_
        have hblk : ∀ b, b < w.heap.size + 2 → w2.heap[b]? = wr.heap[b]? := fun b hb => by
          rw [hgr.block b (by simp; omega) (fun e => by have := (hrow.lt _ e.symm).1; omega), Below.heap_alloc _ _ _ (by omega), hwb1.block b (by omega)]
        have HBLK := Lib.hid hblk; clear hblk
        have hsn : SepIts w (.slice (some ⟨g, 0, none⟩) (its.length + 1) cap2) (its ++ [(l[k], A1, cap1)]) (w2.setCell ⟨w.heap.size, 3, none⟩ (.slice (some ⟨g, 0, none⟩) (its.length + 1) cap2)) := by
          refine sep_next HSEP.out (fun b h1 h2 => ?_) (fun b h1 h2 => ?_) (by omega) (by omega) HF1.out hnd1 (fun b hb => by have := HIN1.out b hb; simp at this; omega) (hat.imp id (fun h => by simp at h; omega)) (fun g' e => (hrow.lt g' e).2) hsz _
          · rw [hgr.block b (by simp; omega) (fun e => h2 e.symm), Below.heap_alloc _ _ _ (by omega), hwb1.block b h1]
          · rw [hgr.block b (by simp; omega) (fun e => by have := (hrow.lt _ e.symm).2; omega), Below.heap_alloc _ _ _ h2]
        have HSN := Lib.hid hsn; clear hsn
        go_wp2_with fail
        go_roundw
        case rel =>
          refine ⟨k + 1, .slice (some ⟨g, 0, none⟩) (its.length + 1) cap2, its ++ [(l[k], A1, cap1)], by omega, by go_num, ⟨?_, ?_, ?_, ?_, ?_, ?_⟩, HSN⟩
          · rw [List.map_append, HITS.out, List.take_succ_eq_append_getElem hlt]; rfl
          · exact heap_set3 ((HBLK.out _ (by omega)).trans HB1.out)
          · rw [Below.heap_setCell _ _ _ _ (by simp)]; exact (HBLK.out _ (by omega)).trans HB2.out
          · exact hrow2.setCell (by simp) (by simp) _
          · refine Below.setCell ?_ (by simp) _
            exact ((hbel.trans (hwb1.mono (by omega))).alloc (by omega) _).grown hgr (by simp; omega) (fun j e => by have := (hrow.lt _ e).1; omega)
          · simp [World.setCell]; omega
        case measure => simp [intOf]; omega
      · obtain rfl : k = l.length := by omega
        have hmap := HITS.out
        simp only [List.take_length] at hmap
        obtain ⟨Av, cv, rfl, hS⟩ := hrow.toS (P := fun b => w.heap.size + 2 ≤ b ∧ b < wr.heap.size) (fun b h h' => ⟨h, h'⟩) (fun b h h' => ⟨h, h'⟩)
        have HS := Lib.hid hS; clear hS
        have HMAP := Lib.hid hmap; clear hmap
        have HROW := Lib.hid hrow; clear hrow
        go_wp2_with fail
        refine bodyPost_ret (v := .agg #[.int .i64 tk, .string tn, .int .i64 ts, .slice Av its.length cv]) ?_ rfl ?_
        · simp [results, Tryd.results52, go_sem, b0, b1, b2, b3]
        refine fresh_endF (by unfold maxLen; omega) HMAP.out HROW.out HSEP.out (fun b hb => heap_set4_other (by omega)) (by simp [World.setCell]) ?_
        iterate 4 refine Below.setCell ?_ (by simp) _
        exact hbel
end Go.Proofs.YtbgkabgbgbebaaaDoor
