/- The closures that gather subterms, and walk. -/
import Derived.Test.YtbgkabgbgbebaaaDoorClone
namespace Go.Proofs.YtbgkabgbgbebaaaDoor
open Go.RowKit

/-- The box cb (a captured variable) holds a slice of the call's own; all else below B0 is as it was in w0. -/
structure Acc (B0 cb : Nat) (w0 w : World) (its : List It) : Prop where
  box : ∃ v, w.heap[cb]? = some (.cells #[v] 22 (0, 0)) ∧ RowT w (cb + 1) (fun b => b < B0) v its
  le : B0 ≤ cb
  lt : cb < w.heap.size
  below : Below B0 w0 w
theorem Acc.keep {B0 cb : Nat} {w0 w w' : World} {its : List It} (h : Acc B0 cb w0 w its) (hb : Below w.heap.size w w') : Acc B0 cb w0 w' its := by
  obtain ⟨⟨v, h1, h2⟩, h3, h4, h5⟩ := h
  have := hb.size
  exact ⟨⟨v, (hb.block cb h4).trans h1, h2.below hb⟩, h3, by omega, h5.trans (hb.mono (by omega))⟩

theorem set_last {α : Type} (l : List α) (z x : α) : (l ++ [z]).set l.length x = l ++ [x] := by
  rw [List.set_append_right _ _ (Nat.le_refl _)]; simp
theorem acc_end1 {B0 cb g cap : Nat} {w0 w2 : World} {its : List It} {z : It} {u : Value} {t : Tm} {A : Option Addr} {c : Nat}
    (hrow : RowT w2 (cb + 1) (fun b => b < B0) (.slice (some ⟨g, 0, none⟩) (its.length + 1) cap) (its ++ [z])) (hbox : w2.heap[cb]? = some (.cells #[u] 22 (0, 0))) (hg : g ≠ cb) (hle : B0 ≤ cb) (hlt : cb < w2.heap.size)
    (hX : RepP w2 (fun b => b < B0 ∧ b < w2.heap.size ∧ g ≠ b) t A c) (hb : Below B0 w0 w2) :
    Acc B0 cb w0 (((((w2.setCell ⟨g, its.length * 4, none⟩ (.int .i64 t.kind)).setCell ⟨g, its.length * 4 + 1, none⟩ (.string t.name)).setCell ⟨g, its.length * 4 + 2, none⟩ (.int .i64 t.sort)).setCell ⟨g, its.length * 4 + 3, none⟩ (.slice A t.kids.length c)).setCell
      ⟨cb, 0, none⟩ (.slice (some ⟨g, 0, none⟩) (its.length + 1) cap)) (its ++ [(t, A, c)]) := by
  have hr := hrow.set (by simp) its.length (by omega) (t, A, c) hX
  rw [set_last] at hr
  have hgb : cb + 1 ≤ g := (hrow.lt g rfl).1
  refine ⟨⟨.slice (some ⟨g, 0, none⟩) (its.length + 1) cap, ?_, hr.setCell (by simp; omega) (by simp) _⟩, hle, by simpa [World.setCell] using hlt, ?_⟩
  · have : ((((w2.setCell ⟨g, its.length * 4, none⟩ (.int .i64 t.kind)).setCell ⟨g, its.length * 4 + 1, none⟩ (.string t.name)).setCell ⟨g, its.length * 4 + 2, none⟩ (.int .i64 t.sort)).setCell ⟨g, its.length * 4 + 3, none⟩ (.slice A t.kids.length c)).heap[cb]? = some (.cells #[u] 22 (0, 0)) := by
      iterate 4 rw [Below.heap_setCell _ _ _ _ (by exact Ne.symm hg)]
      exact hbox
    generalize ((((w2.setCell ⟨g, its.length * 4, none⟩ (.int .i64 t.kind)).setCell ⟨g, its.length * 4 + 1, none⟩ (.string t.name)).setCell ⟨g, its.length * 4 + 2, none⟩ (.int .i64 t.sort)).setCell ⟨g, its.length * 4 + 3, none⟩ (.slice A t.kids.length c)) = W at this
    simp [World.setCell, Array.getElem?_modify, this]
  · refine Below.setCell ?_ (by exact hle) _
    iterate 4 refine Below.setCell ?_ (by show B0 ≤ g; omega) _
    exact hb
theorem acc_end2 {B0 cb g cap : Nat} {w0 w2 : World} {its : List It} {z : It} {u : Value} {t : Tm} {A : Option Addr} {c : Nat}
    (hrow : RowT w2 (cb + 1) (fun b => b < B0) (.slice (some ⟨g, 0, none⟩) (its.length + 1) cap) (its ++ [z])) (hbox : w2.heap[cb]? = some (.cells #[u] 22 (0, 0))) (hg : g ≠ cb) (hle : B0 ≤ cb) (hlt : cb < w2.heap.size)
    (hX : RepP w2 (fun b => b < B0 ∧ b < w2.heap.size ∧ g ≠ b) t A c) (hb : Below B0 w0 w2) :
    Acc B0 cb w0 (((((w2.setCell ⟨cb, 0, none⟩ (.slice (some ⟨g, 0, none⟩) (its.length + 1) cap)).setCell ⟨g, its.length * 4, none⟩ (.int .i64 t.kind)).setCell ⟨g, its.length * 4 + 1, none⟩ (.string t.name)).setCell ⟨g, its.length * 4 + 2, none⟩ (.int .i64 t.sort)).setCell ⟨g, its.length * 4 + 3, none⟩ (.slice A t.kids.length c))
      (its ++ [(t, A, c)]) := by
  have hr0 := hrow.setCell (p := ⟨cb, 0, none⟩) (by simp; omega) (by simp) (.slice (some ⟨g, 0, none⟩) (its.length + 1) cap)
  have hX0 : RepP (w2.setCell ⟨cb, 0, none⟩ (.slice (some ⟨g, 0, none⟩) (its.length + 1) cap)) (fun b => b < B0 ∧ b < (w2.setCell ⟨cb, 0, none⟩ (.slice (some ⟨g, 0, none⟩) (its.length + 1) cap)).heap.size ∧ g ≠ b) t A c :=
    RepP.mono (fun b ⟨h1, h2, h3⟩ => ⟨h1, by simpa [World.setCell] using h2, h3⟩) (fun p ⟨h1, _, _⟩ => World.cell?_setCell_other _ _ _ _ (fun e => by rw [← e] at h1; simp at h1; omega)) t A c hX
  have hr := hr0.set (by simp) its.length (by omega) (t, A, c) hX0
  rw [set_last] at hr
  have hgb : cb + 1 ≤ g := (hrow.lt g rfl).1
  refine ⟨⟨.slice (some ⟨g, 0, none⟩) (its.length + 1) cap, ?_, hr⟩, hle, by simpa [World.setCell] using hlt, ?_⟩
  · iterate 4 rw [Below.heap_setCell _ _ _ _ (by exact Ne.symm hg)]
    simp [World.setCell, Array.getElem?_modify, hbox]
  · iterate 4 refine Below.setCell ?_ (by show B0 ≤ g; omega) _
    exact Below.setCell hb (by exact hle) _

theorem acc_box1 {cb g : Nat} {w2 : World} {u a b c d v : Value} {T : TypeId} {i : Nat} (hbox : w2.heap[cb]? = some (.cells #[u] T (0, 0))) (hg : g ≠ cb) :
    (((((w2.setCell ⟨g, i, none⟩ a).setCell ⟨g, i + 1, none⟩ b).setCell ⟨g, i + 2, none⟩ c).setCell ⟨g, i + 3, none⟩ d).setCell ⟨cb, 0, none⟩ v).heap[cb]? = some (.cells #[v] T (0, 0)) := by
  have : ((((w2.setCell ⟨g, i, none⟩ a).setCell ⟨g, i + 1, none⟩ b).setCell ⟨g, i + 2, none⟩ c).setCell ⟨g, i + 3, none⟩ d).heap[cb]? = some (.cells #[u] T (0, 0)) := by
    iterate 4 rw [Below.heap_setCell _ _ _ _ (by exact Ne.symm hg)]
    exact hbox
  generalize ((((w2.setCell ⟨g, i, none⟩ a).setCell ⟨g, i + 1, none⟩ b).setCell ⟨g, i + 2, none⟩ c).setCell ⟨g, i + 3, none⟩ d) = W at this
  simp [World.setCell, Array.getElem?_modify, this]
theorem acc_box2 {cb g : Nat} {w2 : World} {u a b c d v : Value} {T : TypeId} {i : Nat} (hbox : w2.heap[cb]? = some (.cells #[u] T (0, 0))) (hg : g ≠ cb) :
    (((((w2.setCell ⟨cb, 0, none⟩ v).setCell ⟨g, i, none⟩ a).setCell ⟨g, i + 1, none⟩ b).setCell ⟨g, i + 2, none⟩ c).setCell ⟨g, i + 3, none⟩ d).heap[cb]? = some (.cells #[v] T (0, 0)) := by
  iterate 4 rw [Below.heap_setCell _ _ _ _ (by exact Ne.symm hg)]
  simp [World.setCell, Array.getElem?_modify, hbox]
/-- the block that the slice in the box cb owns -/
def ownAt (w : World) (cb : Nat) : Option Nat := (w.cell? ⟨cb, 0, none⟩).bind Value.ownBlock
/-- what gathering turns: the box, the row that its slice owns, and new blocks -/
structure Step (cb : Nat) (w w' : World) : Prop where
  size : w.heap.size ≤ w'.heap.size
  same : ∀ b, b < w.heap.size → b ≠ cb → ownAt w cb ≠ some b → w'.heap[b]? = w.heap[b]?
  own : ownAt w' cb = ownAt w cb ∨ ∀ b, ownAt w' cb = some b → w.heap.size ≤ b
theorem Step.refl (cb : Nat) (w : World) : Step cb w w := ⟨Nat.le_refl _, fun _ _ _ _ => rfl, .inl rfl⟩
theorem Step.trans {cb : Nat} {a b c : World} (h : Step cb a b) (k : Step cb b c) : Step cb a c := by
  refine ⟨Nat.le_trans h.size k.size, fun x hx hc ho => ?_, ?_⟩
  · have h1 := h.same x hx hc ho
    rw [k.same x (Nat.lt_of_lt_of_le hx h.size) hc ?_, h1]
    rcases h.own with e | e
    · rw [e]; exact ho
    · intro e2; have := e x e2; omega
  · rcases k.own with e | e
    · rw [e]; exact h.own
    · exact .inr fun x hx => Nat.le_trans h.size (e x hx)
theorem Step.of_below {cb : Nat} {w w' : World} (h : Below w.heap.size w w') (hc : cb < w.heap.size) : Step cb w w' :=
  ⟨h.size, fun b hb _ _ => h.block b hb, .inl (by unfold ownAt; rw [h.cell (by exact hc)])⟩
theorem step_end {cb g n cap : Nat} {w w2 wE : World} {v : Value} {T : TypeId} (hbox : w.cell? ⟨cb, 0, none⟩ = some v) (hs : w.heap.size ≤ w2.heap.size)
    (h2 : ∀ b, b < w.heap.size → v.ownBlock ≠ some b → w2.heap[b]? = w.heap[b]?) (hg : v.ownBlock = some g ∨ w.heap.size ≤ g)
    (hE : ∀ b, b ≠ g → b ≠ cb → wE.heap[b]? = w2.heap[b]?) (hsE : wE.heap.size = w2.heap.size) (hbE : wE.heap[cb]? = some (.cells #[.slice (some ⟨g, 0, none⟩) n cap] T (0, 0))) : Step cb w wE := by
  have e1 : ownAt w cb = v.ownBlock := by unfold ownAt; rw [hbox]; rfl
  have e2 : ownAt wE cb = some g := by unfold ownAt; simp [World.cell?, hbE, Value.ownBlock]
  refine ⟨by omega, fun b hb hc ho => ?_, ?_⟩
  · rw [e1] at ho
    rw [hE b ?_ hc, h2 b hb ho]
    rintro rfl
    rcases hg with hg | hg
    · exact ho hg
    · omega
  · rw [e1, e2]
    rcases hg with hg | hg
    · exact .inl hg.symm
    · exact .inr fun b hb => by injection hb with hb; omega

set_option maxHeartbeats 2000000 in
set_option maxRecDepth 100000 in
theorem gather_any (t : Tm) (A : Option Addr) (cap B0 cb : Nat) (w0 w : World) (its : List It) (hacc : Acc B0 cb w0 w its) (hrep : RepT w B0 t A cap) (hlen : its.length ≤ 10000000) :
    Calls Tryd.prog 54 #[t.val A cap, .pointer (some ⟨cb, 0, none⟩)] w fun e w' => e = .returned (.tuple #[]) ∧ Acc B0 cb w0 w' (its ++ [(t, A, cap)]) ∧ Step cb w w' := by
  obtain ⟨⟨v, hbox, hrow⟩, hle, hlt, hbel⟩ := hacc
  obtain ⟨Av, cv, rfl, _⟩ := hrow.toS (P := fun _ => True) (fun _ _ _ => trivial) (fun _ _ _ => trivial)
  simp only [Tm.val]
  have hcb : w.cell? ⟨cb, 0, none⟩ = some (.slice Av its.length cv) := by simp [World.cell?, hbox]
  have hcf : w.frozen? ⟨cb, 0, none⟩ = false := by simp [World.frozen?, hbox]
  have hne1 : (Value.slice Av its.length cv).ownBlock ≠ some cb := fun e => by have := (hrow.lt _ e).1; omega
  have hne2 : (Value.slice Av its.length cv).ownBlock ≠ some w.heap.size := fun e => by have := (hrow.lt _ e).2; omega
  have HBOX := Lib.hid hbox; clear hbox
  have hva : ∀ o, (w.alloc o).cell? ⟨cb, 0, none⟩ = some (.slice Av its.length cv) := fun o => ((below1 (Nat.le_refl _) o).cell hlt).trans hcb
  go_enter Tryd.func54, Tryd.ntmps54
  go_wp2_with fail
  refine wp_region_mix (fun w' => w'.cell? ⟨cb, 0, none⟩ = some (.slice Av its.length cv) ∧ w'.cell? ⟨w.heap.size, 0, none⟩ = some (.int .i64 t.kind) ∧ w'.cell? ⟨w.heap.size, 1, none⟩ = some (.string t.name) ∧ w'.cell? ⟨w.heap.size, 2, none⟩ = some (.int .i64 t.sort) ∧ w'.cell? ⟨w.heap.size, 3, none⟩ = some (.slice A t.kids.length cap))
    4 (.held 0 (.held 1 (.held 2 (.op 3 (.op 4 (.pure 5 (.two 6 7 (.op 7 .nil) (.op 6 .nil)))))))) (by kernel_rfl) (by kernel_rfl) ?_
  refine mix_take (v := .slice Av its.length cv) rfl rfl (fun _ _ _ h => h) (by simp [hva]) (fun w' hS => by obtain ⟨g0, g1, g2, g3, g4⟩ := hS; go_simp) ?_
  refine mix_take (v := .agg #[.int .i64 t.kind, .string t.name, .int .i64 t.sort, .slice A t.kids.length cap]) rfl rfl (fun _ _ _ h => h) (by simp [hva]) (fun w' hS => by obtain ⟨g0, g1, g2, g3, g4⟩ := hS; simp only [Act.put]; go_simp) ?_
  refine mix_take (v := .int .i64 its.length) rfl rfl (fun _ _ _ h => h) (by simp [hva]) (fun w' hS => by simp only [Act.put]; go_simp) ?_
  simp only [Act.put, List.setIfInBounds_toArray]
  refine mix_op rfl rfl (fun K hK => ?_)
  go_wp2_with fail
  obtain ⟨W1, hW1⟩ : ∃ W1, W1 = (w.alloc (.cells #[.int .i64 t.kind, .string t.name, .int .i64 t.sort, .slice A t.kids.length cap] 24)).drew := ⟨_, rfl⟩
  have hbW : Below w.heap.size w W1 := by rw [hW1]; exact ((Below.refl _ _).alloc (Nat.le_refl _) _).drew
  have hsW : W1.heap.size = w.heap.size + 1 := by rw [hW1]; simp
  refine ⟨fun _ => ⟨?_, ?_, ?_, ?_, ?_⟩, ?_⟩
  · exact ((below1 (w := w.alloc _) (Nat.le_refl _) _).cell (by simp; omega)).trans (hva _)
  iterate 4 (simp)
  refine mix_op rfl rfl (fun K hK => ?_)
  have hZ : RepP ((w.alloc (.cells #[.int .i64 t.kind, .string t.name, .int .i64 t.sort, .slice A t.kids.length cap] 24)).alloc (.cells #[.int .i64 0, .string ⟨#[]⟩, .int .i64 0, .slice none 0 0] 24)).drew
      (fun b => b < B0 ∧ b < ((w.alloc (.cells #[.int .i64 t.kind, .string t.name, .int .i64 t.sort, .slice A t.kids.length cap] 24)).alloc (.cells #[.int .i64 0, .string ⟨#[]⟩, .int .i64 0, .slice none 0 0] 24)).drew.heap.size ∧ (Value.slice Av its.length cv).ownBlock ≠ some b) (Tm.mk 0 ⟨#[]⟩ 0 []) none 0 := by
    rw [RepP_mk]; exact ⟨Nat.zero_le _, by simp, by simp [maxLen], Or.inl rfl⟩
  refine wp_push (by rfl) (.tmp 3) (.tmp 6) (by rfl) (cb + 1) (fun b => b < B0) (.slice Av its.length cv) its (by rfl) ((hrow.alloc _).alloc _).drew (Tm.mk 0 ⟨#[]⟩ 0 [], none, 0) (w.heap.size + 1) _ (0, 0) (by rfl)
    (by have h := heap_alloc_new (w.alloc (.cells #[.int .i64 t.kind, .string t.name, .int .i64 t.sort, .slice A t.kids.length cap] 24)) (.cells #[.int .i64 0, .string ⟨#[]⟩, .int .i64 0, .slice none 0 0] 24); rw [World.size_alloc] at h; exact h)
    hZ (by omega) (by simp; omega) ?_
  intro g cap2 w2 hrow2 hgr hat hbg
  have hbel2 : ∀ b, b < w.heap.size → (Value.slice Av its.length cv).ownBlock ≠ some b → w2.heap[b]? = w.heap[b]? := fun b hb hne => by
    rw [hgr.block b (by simp; omega) (fun e => hne e.symm)]
    exact (((Below.refl w.heap.size w).alloc (Nat.le_refl _) _).alloc (by simp) _).block b hb
  have hs2 : w.heap.size + 2 ≤ w2.heap.size := by have := hgr.size; simpa using this
  have hgcb : g ≠ cb := by omega
  obtain ⟨s0, s1, s2, s3, sf⟩ := hrow2.slot (by simp) its.length (by simp)
  simp only [List.getElem_concat_length, Tm.kind, Tm.name, Tm.sort, Tm.kids, List.length_nil] at s0 s1 s2 s3
  have hbox2 : w2.heap[cb]? = some (.cells #[.slice Av its.length cv] 22 (0, 0)) := (hbel2 cb hlt hne1).trans HBOX.out
  have c2 : w2.cell? ⟨cb, 0, none⟩ = some (.slice Av its.length cv) := by simp [World.cell?, hbox2]
  have f2 : w2.frozen? ⟨cb, 0, none⟩ = false := by simp [World.frozen?, hbox2]
  have hB2 : Below B0 w0 w2 := hbel.trans ⟨hgr.os, hgr.tape, hgr.output, by omega, fun b hb => hbel2 b (by omega) (fun e => by have := (hrow.lt _ e).1; omega)⟩
  have hX2 : RepP w2 (fun b => b < B0 ∧ b < w2.heap.size ∧ g ≠ b) t A cap :=
    RepP.mono (fun b hb => ⟨hb, by omega, by omega⟩) (fun p hp => World.cell?_of_block (hbel2 p.block (by omega) (fun e => by have := (hrow.lt _ e).1; omega))) t A cap hrep
  have HX2 := Lib.hid hX2; clear hX2
  have HB2 := Lib.hid hB2; clear hB2
  have HBOX2 := Lib.hid hbox2; clear hbox2
  have HROW2 := Lib.hid hrow2; clear hrow2
  have HBEL2 := Lib.hid hbel2; clear hbel2
  have HCB := Lib.hid hcb
  have HG : Hid ((Value.slice Av its.length cv).ownBlock = some g ∨ w.heap.size ≤ g) := hat.elim Or.inl (fun h => Or.inr (by rw [h]; simp; omega))
  have i1 : (0 : Int) ≤ (its.length : Int) := Int.natCast_nonneg _
  have i2 : (its.length : Int) < ((its.length + 1 : Nat) : Int) := by omega
  refine hK _ _ ⟨fun h => absurd h (by decide), ?_⟩
  clear hK K
  simp only [Act.put, List.setIfInBounds_toArray]
  refine mix_pure (v := .pointer (some ⟨g, its.length * 4, none⟩)) rfl rfl (fun _ _ _ h => h) (by omega) (fun w' => by go_simp; intro h; omega) ?_
  simp only [Act.put]
  refine mix_two (mix_op rfl rfl (fun K hK => ?_)) (mix_op rfl rfl (fun K hK => ?_))
  · go_wp2_with fail
    refine ⟨fun h => absurd h (by decide), mix_op rfl rfl (fun K hK => ?_)⟩
    go_wp2_with fail
    refine ⟨fun h => absurd h (by decide), mix_nil ?_⟩
    go_wp2_with fail
    go_end0
    refine ⟨rfl, ?_⟩
    have ACC := acc_end1 HROW2.out HBOX2.out hgcb hle (by omega) HX2.out HB2.out
    refine ⟨ACC, step_end (n := its.length + 1) (cap := cap2) (T := 22) HCB.out (by omega) HBEL2.out HG.out (fun b hb hc => ?_) (by simp [World.setCell]) ?_⟩
    · iterate 5 rw [Below.heap_setCell _ _ _ _ (by first | exact hb | exact hc)]
    · exact acc_box1 HBOX2.out hgcb
  · go_wp2_with fail
    refine ⟨fun h => absurd h (by decide), mix_op rfl rfl (fun K hK => ?_)⟩
    go_wp2_with fail
    refine ⟨fun h => absurd h (by decide), mix_nil ?_⟩
    go_wp2_with fail
    go_end0
    refine ⟨rfl, ?_⟩
    have ACC := acc_end2 HROW2.out HBOX2.out hgcb hle (by omega) HX2.out HB2.out
    refine ⟨ACC, step_end (n := its.length + 1) (cap := cap2) (T := 22) HCB.out (by omega) HBEL2.out HG.out (fun b hb hc => ?_) (by simp [World.setCell]) ?_⟩
    · iterate 5 rw [Below.heap_setCell _ _ _ _ (by first | exact hb | exact hc)]
    · exact acc_box2 HBOX2.out hgcb
set_option maxHeartbeats 2000000 in
set_option maxRecDepth 100000 in
theorem gatherKind_any (t : Tm) (kd : Int) (kb : Nat) (A : Option Addr) (cap B0 cb : Nat) (w0 w : World) (its : List It) (hacc : Acc B0 cb w0 w its) (hrep : RepT w B0 t A cap) (hlen : its.length ≤ 10000000) (hkb : w.cell? ⟨kb, 0, none⟩ = some (.int .i64 kd)) (hkl : kb < w.heap.size) (hk : t.kind = kd) :
    Calls Tryd.prog 71 #[t.val A cap, .pointer (some ⟨kb, 0, none⟩), .pointer (some ⟨cb, 0, none⟩)] w fun e w' => e = .returned (.tuple #[]) ∧ Acc B0 cb w0 w' (its ++ [(t, A, cap)]) ∧ Step cb w w' := by
  obtain ⟨⟨v, hbox, hrow⟩, hle, hlt, hbel⟩ := hacc
  obtain ⟨Av, cv, rfl, _⟩ := hrow.toS (P := fun _ => True) (fun _ _ _ => trivial) (fun _ _ _ => trivial)
  simp only [Tm.val]
  have hcb : w.cell? ⟨cb, 0, none⟩ = some (.slice Av its.length cv) := by simp [World.cell?, hbox]
  have hcf : w.frozen? ⟨cb, 0, none⟩ = false := by simp [World.frozen?, hbox]
  have hne1 : (Value.slice Av its.length cv).ownBlock ≠ some cb := fun e => by have := (hrow.lt _ e).1; omega
  have hne2 : (Value.slice Av its.length cv).ownBlock ≠ some w.heap.size := fun e => by have := (hrow.lt _ e).2; omega
  have HBOX := Lib.hid hbox; clear hbox
  have hva : ∀ o, (w.alloc o).cell? ⟨cb, 0, none⟩ = some (.slice Av its.length cv) := fun o => ((below1 (Nat.le_refl _) o).cell hlt).trans hcb
  have hka : ∀ o, (w.alloc o).cell? ⟨kb, 0, none⟩ = some (.int .i64 kd) := fun o => ((below1 (Nat.le_refl _) o).cell hkl).trans hkb
  have hk' : (t.kind == kd) = true := by simpa using hk
  clear hk hkb
  go_enter Tryd.func71, Tryd.ntmps71
  go_wp2_with fail
  refine wp_region_mix (fun w' => w'.cell? ⟨cb, 0, none⟩ = some (.slice Av its.length cv) ∧ w'.cell? ⟨w.heap.size, 0, none⟩ = some (.int .i64 t.kind) ∧ w'.cell? ⟨w.heap.size, 1, none⟩ = some (.string t.name) ∧ w'.cell? ⟨w.heap.size, 2, none⟩ = some (.int .i64 t.sort) ∧ w'.cell? ⟨w.heap.size, 3, none⟩ = some (.slice A t.kids.length cap))
    4 (.held 0 (.held 1 (.held 2 (.op 3 (.op 4 (.pure 5 (.two 6 7 (.op 7 .nil) (.op 6 .nil)))))))) (by kernel_rfl) (by kernel_rfl) ?_
  refine mix_take (v := .slice Av its.length cv) rfl rfl (fun _ _ _ h => h) (by simp [hva]) (fun w' hS => by obtain ⟨g0, g1, g2, g3, g4⟩ := hS; go_simp) ?_
  refine mix_take (v := .agg #[.int .i64 t.kind, .string t.name, .int .i64 t.sort, .slice A t.kids.length cap]) rfl rfl (fun _ _ _ h => h) (by simp [hva]) (fun w' hS => by obtain ⟨g0, g1, g2, g3, g4⟩ := hS; simp only [Act.put]; go_simp) ?_
  refine mix_take (v := .int .i64 its.length) rfl rfl (fun _ _ _ h => h) (by simp [hva]) (fun w' hS => by simp only [Act.put]; go_simp) ?_
  simp only [Act.put, List.setIfInBounds_toArray]
  refine mix_op rfl rfl (fun K hK => ?_)
  go_wp2_with fail
  obtain ⟨W1, hW1⟩ : ∃ W1, W1 = (w.alloc (.cells #[.int .i64 t.kind, .string t.name, .int .i64 t.sort, .slice A t.kids.length cap] 24)).drew := ⟨_, rfl⟩
  have hbW : Below w.heap.size w W1 := by rw [hW1]; exact ((Below.refl _ _).alloc (Nat.le_refl _) _).drew
  have hsW : W1.heap.size = w.heap.size + 1 := by rw [hW1]; simp
  refine ⟨fun _ => ⟨?_, ?_, ?_, ?_, ?_⟩, ?_⟩
  · exact ((below1 (w := w.alloc _) (Nat.le_refl _) _).cell (by simp; omega)).trans (hva _)
  iterate 4 (simp)
  refine mix_op rfl rfl (fun K hK => ?_)
  have hZ : RepP ((w.alloc (.cells #[.int .i64 t.kind, .string t.name, .int .i64 t.sort, .slice A t.kids.length cap] 24)).alloc (.cells #[.int .i64 0, .string ⟨#[]⟩, .int .i64 0, .slice none 0 0] 24)).drew
      (fun b => b < B0 ∧ b < ((w.alloc (.cells #[.int .i64 t.kind, .string t.name, .int .i64 t.sort, .slice A t.kids.length cap] 24)).alloc (.cells #[.int .i64 0, .string ⟨#[]⟩, .int .i64 0, .slice none 0 0] 24)).drew.heap.size ∧ (Value.slice Av its.length cv).ownBlock ≠ some b) (Tm.mk 0 ⟨#[]⟩ 0 []) none 0 := by
    rw [RepP_mk]; exact ⟨Nat.zero_le _, by simp, by simp [maxLen], Or.inl rfl⟩
  refine wp_push (by rfl) (.tmp 8) (.tmp 11) (by rfl) (cb + 1) (fun b => b < B0) (.slice Av its.length cv) its (by rfl) ((hrow.alloc _).alloc _).drew (Tm.mk 0 ⟨#[]⟩ 0 [], none, 0) (w.heap.size + 1) _ (0, 0) (by rfl)
    (by have h := heap_alloc_new (w.alloc (.cells #[.int .i64 t.kind, .string t.name, .int .i64 t.sort, .slice A t.kids.length cap] 24)) (.cells #[.int .i64 0, .string ⟨#[]⟩, .int .i64 0, .slice none 0 0] 24); rw [World.size_alloc] at h; exact h)
    hZ (by omega) (by simp; omega) ?_
  intro g cap2 w2 hrow2 hgr hat hbg
  have hbel2 : ∀ b, b < w.heap.size → (Value.slice Av its.length cv).ownBlock ≠ some b → w2.heap[b]? = w.heap[b]? := fun b hb hne => by
    rw [hgr.block b (by simp; omega) (fun e => hne e.symm)]
    exact (((Below.refl w.heap.size w).alloc (Nat.le_refl _) _).alloc (by simp) _).block b hb
  have hs2 : w.heap.size + 2 ≤ w2.heap.size := by have := hgr.size; simpa using this
  have hgcb : g ≠ cb := by omega
  obtain ⟨s0, s1, s2, s3, sf⟩ := hrow2.slot (by simp) its.length (by simp)
  simp only [List.getElem_concat_length, Tm.kind, Tm.name, Tm.sort, Tm.kids, List.length_nil] at s0 s1 s2 s3
  have hbox2 : w2.heap[cb]? = some (.cells #[.slice Av its.length cv] 22 (0, 0)) := (hbel2 cb hlt hne1).trans HBOX.out
  have c2 : w2.cell? ⟨cb, 0, none⟩ = some (.slice Av its.length cv) := by simp [World.cell?, hbox2]
  have f2 : w2.frozen? ⟨cb, 0, none⟩ = false := by simp [World.frozen?, hbox2]
  have hB2 : Below B0 w0 w2 := hbel.trans ⟨hgr.os, hgr.tape, hgr.output, by omega, fun b hb => hbel2 b (by omega) (fun e => by have := (hrow.lt _ e).1; omega)⟩
  have hX2 : RepP w2 (fun b => b < B0 ∧ b < w2.heap.size ∧ g ≠ b) t A cap :=
    RepP.mono (fun b hb => ⟨hb, by omega, by omega⟩) (fun p hp => World.cell?_of_block (hbel2 p.block (by omega) (fun e => by have := (hrow.lt _ e).1; omega))) t A cap hrep
  have HX2 := Lib.hid hX2; clear hX2
  have HB2 := Lib.hid hB2; clear hB2
  have HBOX2 := Lib.hid hbox2; clear hbox2
  have HROW2 := Lib.hid hrow2; clear hrow2
  have HBEL2 := Lib.hid hbel2; clear hbel2
  have HCB := Lib.hid hcb
  have HG : Hid ((Value.slice Av its.length cv).ownBlock = some g ∨ w.heap.size ≤ g) := hat.elim Or.inl (fun h => Or.inr (by rw [h]; simp; omega))
  have i1 : (0 : Int) ≤ (its.length : Int) := Int.natCast_nonneg _
  have i2 : (its.length : Int) < ((its.length + 1 : Nat) : Int) := by omega
  refine hK _ _ ⟨fun h => absurd h (by decide), ?_⟩
  clear hK K
  simp only [Act.put, List.setIfInBounds_toArray]
  refine mix_pure (v := .pointer (some ⟨g, its.length * 4, none⟩)) rfl rfl (fun _ _ _ h => h) (by omega) (fun w' => by go_simp; intro h; omega) ?_
  simp only [Act.put]
  refine mix_two (mix_op rfl rfl (fun K hK => ?_)) (mix_op rfl rfl (fun K hK => ?_))
  · go_wp2_with fail
    refine ⟨fun h => absurd h (by decide), mix_op rfl rfl (fun K hK => ?_)⟩
    go_wp2_with fail
    refine ⟨fun h => absurd h (by decide), mix_nil ?_⟩
    go_wp2_with fail
    go_end0
    refine ⟨rfl, ?_⟩
    have ACC := acc_end1 HROW2.out HBOX2.out hgcb hle (by omega) HX2.out HB2.out
    refine ⟨ACC, step_end (n := its.length + 1) (cap := cap2) (T := 22) HCB.out (by omega) HBEL2.out HG.out (fun b hb hc => ?_) (by simp [World.setCell]) ?_⟩
    · iterate 5 rw [Below.heap_setCell _ _ _ _ (by first | exact hb | exact hc)]
    · exact acc_box1 HBOX2.out hgcb
  · go_wp2_with fail
    refine ⟨fun h => absurd h (by decide), mix_op rfl rfl (fun K hK => ?_)⟩
    go_wp2_with fail
    refine ⟨fun h => absurd h (by decide), mix_nil ?_⟩
    go_wp2_with fail
    go_end0
    refine ⟨rfl, ?_⟩
    have ACC := acc_end2 HROW2.out HBOX2.out hgcb hle (by omega) HX2.out HB2.out
    refine ⟨ACC, step_end (n := its.length + 1) (cap := cap2) (T := 22) HCB.out (by omega) HBEL2.out HG.out (fun b hb hc => ?_) (by simp [World.setCell]) ?_⟩
    · iterate 5 rw [Below.heap_setCell _ _ _ _ (by first | exact hb | exact hc)]
    · exact acc_box2 HBOX2.out hgcb
set_option maxHeartbeats 2000000 in
theorem gatherKind_no (t : Tm) (kd : Int) (kb cb : Nat) (A : Option Addr) (cap : Nat) (w : World) (hkb : w.cell? ⟨kb, 0, none⟩ = some (.int .i64 kd)) (hkl : kb < w.heap.size) (hk : t.kind ≠ kd) :
    Calls Tryd.prog 71 #[t.val A cap, .pointer (some ⟨kb, 0, none⟩), .pointer (some ⟨cb, 0, none⟩)] w fun e w' => e = .returned (.tuple #[]) ∧ Below w.heap.size w w' := by
  simp only [Tm.val]
  have hka : ∀ o, (w.alloc o).cell? ⟨kb, 0, none⟩ = some (.int .i64 kd) := fun o => ((below1 (Nat.le_refl _) o).cell hkl).trans hkb
  have hk' : (t.kind == kd) = false := by simpa using hk
  clear hk hkb
  go_enter Tryd.func71, Tryd.ntmps71
  go_wp2_with fail
  go_end0
  exact ⟨rfl, below1 (Nat.le_refl _) _⟩

end Go.Proofs.YtbgkabgbgbebaaaDoor
