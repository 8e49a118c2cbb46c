/- The reference's Atom. -/
import Derived.Test.YtbgkabgbgbebaaaDoorGuard
import Derived.Test.YtbgkabgbgbebaaaDoorSubterms
namespace Go.Proofs.YtbgkabgbgbebaaaDoor
open Go.RowKit Go.Sort

theorem atom_any (x : ByteArray) (so : Int) (w : World) :
    Calls Tryd.prog 38 #[.string x, .int .i64 so] w fun e w' => e = .returned ((Tm.mk 2 x so []).val none 0) ∧ Lay w.heap.size w w' := by
  simp only [Tm.val, Tm.kind, Tm.name, Tm.sort, Tm.kids]
  go_enter Tryd.func38, Tryd.ntmps38
  go_wp2_with fail
  refine bodyPost_ret (v := .agg #[.int .i64 2, .string x, .int .i64 so, .slice none 0 0]) ?_ rfl ?_
  · simp [results, Tryd.results38, go_sem]
  exact ⟨rfl, (Lay.refl _ _).alloc (Nat.le_refl _) _⟩

set_option maxHeartbeats 1000000 in
theorem app_any (x : ByteArray) (l : List Tm) (A : Option Addr) (c : Nat) (w : World) (hx : x.size ≤ maxLen) (hl : l ≠ []) (hl2 : l.length ≤ 1000000) (hrep : RepS w (fun b => b < w.heap.size) l A c) :
    Calls Tryd.prog 46 #[.string x, .slice A l.length c] w fun e w' => ∃ A' c', e = .returned ((Tm.mk 3 x 0 l).val A' c') ∧ RepP w' (fun b => b < w'.heap.size) (.mk 3 x 0 l) A' c' ∧ Below w.heap.size w w' := by
  obtain ⟨h1, h2, h3⟩ := hrep
  rcases h3 with h3 | ⟨b, off, rfl, hb, hL⟩
  · exact absurd h3 hl
  obtain ⟨its, hm, hc, hr⟩ := RepLP.its l b off hL
  have hb1 : Below w.heap.size w ((w.alloc (.cells #[.int .i64 0, .string ⟨#[]⟩, .int .i64 0, .slice none 0 0] 24)).alloc (.cells #[] 24)) := (below1 (Nat.le_refl _) _).alloc (by simp) _
  have hr0 : RowT ((w.alloc (.cells #[.int .i64 0, .string ⟨#[]⟩, .int .i64 0, .slice none 0 0] 24)).alloc (.cells #[] 24)) (w.heap.size + 1) (fun b => b < w.heap.size) (.slice (some ⟨w.heap.size + 1, 0, none⟩) 0 0) [] := by
    refine ⟨?_, by simp⟩
    have h := World.ownsRow_made (base := w.heap.size + 1) (e := 24) (size := 4) (w.alloc (.cells #[.int .i64 0, .string ⟨#[]⟩, .int .i64 0, .slice none 0 0] 24)) #[] 0 (by simp) (by simp [maxLen]) rfl
    rw [World.size_alloc] at h
    exact h
  have hlen : l.length = its.length := by rw [← hm, List.length_map]
  obtain ⟨A', c', w', hap, hrow, hg, hsome⟩ := hr0.more (fun b h => by omega) (by simp) b off c l.length its hlen (fun j u hj => by rw [hb1.cell (by exact hb)]; exact hc j u hj) (fun y hy => RepP.mono (fun _ h => h) (fun q hq => hb1.cell hq) _ _ _ (hr y hy)) (by simp; omega)
  simp only [List.length_nil, Nat.zero_add, List.nil_append] at hap hrow
  have HM := Lib.hid hm; clear hm
  have HLEN := Lib.hid hlen; clear hlen
  have HROW := Lib.hid hrow; clear hrow
  have hbx : w'.heap[w.heap.size]? = some (.cells #[.int .i64 0, .string ⟨#[]⟩, .int .i64 0, .slice none 0 0] 24 (0, 0)) := by
    rw [hg.block _ (by simp; omega) (by simp [Value.ownBlock]), Below.heap_alloc _ _ _ (by simp)]; exact heap_alloc_new _ _
  obtain ⟨r0, r1, r2, r3, rf⟩ := box_at hbx
  have hbw : Below w.heap.size w w' := below_of_grown hb1 (by simp; omega) hg (fun k hk => by simp [Value.ownBlock] at hk; omega)
  have HBW := Lib.hid hbw; clear hbw hbx hg
  clear hr0 hc hr hsome hL
  simp only [Tm.val, Tm.kind, Tm.name, Tm.sort, Tm.kids]
  go_enter Tryd.func46, Tryd.ntmps46
  go_wp2_with (at_builtin; refine wpList_run_append rfl _ _ rfl rfl rfl hap ?_)
  refine bodyPost_ret (v := .agg #[.int .i64 3, .string x, .int .i64 0, .slice A' l.length c']) ?_ rfl ?_
  · simp [results, Tryd.results46, go_sem, r0, r1, r2, r3]
  refine ⟨A', c', rfl, ?_, ?_⟩
  · obtain ⟨A1, c1, he, hS⟩ := HROW.out.toS (P := fun b => b < w'.heap.size ∧ b ≠ w.heap.size) (fun b h h' => ⟨h', by omega⟩) (fun b h h' => ⟨h', by omega⟩)
    injection he with he1 _ he3
    subst he1 he3
    rw [HM.out] at hS
    rw [RepP_mk]
    refine ⟨hx, RepS.mono ?_ ?_ hS⟩
    · rintro b ⟨h1, _⟩; simpa [World.setCell] using h1
    · rintro q ⟨_, h2⟩
      have hne : ∀ o, (⟨w.heap.size, o, none⟩ : Addr) ≠ q := fun o e => h2 (by rw [← e])
      rw [World.cell?_setCell_other _ _ _ _ (hne _), World.cell?_setCell_other _ _ _ _ (hne _), World.cell?_setCell_other _ _ _ _ (hne _), World.cell?_setCell_other _ _ _ _ (hne _)]
  · iterate 4 refine Below.setCell ?_ (by exact Nat.le_refl _) _
    exact HBW.out
end Go.Proofs.YtbgkabgbgbebaaaDoor
