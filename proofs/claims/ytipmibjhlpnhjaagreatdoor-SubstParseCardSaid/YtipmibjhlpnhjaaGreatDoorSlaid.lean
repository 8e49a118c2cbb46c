/- The reference's Var, and a block of bindings that was laid as a slice. -/
import Derived.Test.YtipmibjhlpnhjaaGreatDoorSaw0
namespace Go.Proofs.YtipmibjhlpnhjaaGreatDoor
open Go.RowKit Go.Sort

theorem var_any (x : ByteArray) (so : Int) (w : World) :
    Calls Tryz.prog 42 #[.string x, .int .i64 so] w fun e w' => e = .returned ((Tm.mk 1 x so []).val none 0) ∧ Lay w.heap.size w w' := by
  simp only [Tm.val, Tm.kind, Tm.name, Tm.sort, Tm.kids]
  go_enter Tryz.func42, Tryz.ntmps42
  go_wp2_with fail
  refine bodyPost_ret (v := .agg #[.int .i64 1, .string x, .int .i64 so, .slice none 0 0]) ?_ rfl ?_
  · simp [results, Tryz.results42, go_sem]
  exact ⟨rfl, (Lay.refl _ _).alloc (Nat.le_refl _) _⟩

theorem repB_cells {w : World} {P : Nat → Prop} {b : Nat} {T : TypeId} (its : List IB) (hB : w.heap[b]? = some (.cells (bCells its).toArray T (0, 0))) (hb : P b) (hr : ∀ x ∈ its, RepP w P x.1.1 x.1.2.1 x.1.2.2 ∧ RepP w P x.2.1 x.2.2.1 x.2.2.2) (hlen : its.length ≤ 1000) :
    RepB w P (its.map IB.bd) (some ⟨b, 0, none⟩) its.length := by
  refine ⟨by simp, by unfold maxLen; omega, .inr ⟨b, 0, rfl, hb, ?_⟩⟩
  rw [← bits_flat]
  refine RepLP.of_its (bits its) b 0 (fun j u hj => ?_) (fun y hy => ?_)
  · unfold World.cell?
    rw [hB]
    unfold bCells
    simpa using hj
  · obtain ⟨x, hx, e⟩ := mem_bits hy
    rcases e with rfl | rfl
    · exact (hr x hx).1
    · exact (hr x hx).2

/-- a slice of terms that is laid -/
theorem slice_new {Z Z1 : World} (its : List It) {T : TypeId} (h : Z1 = Z.alloc (.cells (itCells its).toArray T)) (hlen : its.length ≤ 1000) (hr : ∀ x ∈ its, RepT Z Z.heap.size x.1 x.2.1 x.2.2) :
    RepS Z1 (fun b => b < Z1.heap.size) (its.map (·.1)) (some ⟨Z.heap.size, 0, none⟩) its.length ∧ Below Z.heap.size Z Z1 := by
  have hb : Below Z.heap.size Z Z1 := by rw [h]; exact below1 (Nat.le_refl _) _
  refine ⟨repS_cells its (by rw [h]; exact heap_alloc_new _ _) (by rw [h]; simp) (fun x hx => (hr x hx).go hb hb.size) hlen, hb⟩
/-- .. of bindings -/
theorem bslice_new {Z Z1 : World} (its : List IB) {T : TypeId} (h : Z1 = Z.alloc (.cells (bCells its).toArray T)) (hlen : its.length ≤ 1000) (hr : ∀ x ∈ its, RepT Z Z.heap.size x.1.1 x.1.2.1 x.1.2.2 ∧ RepT Z Z.heap.size x.2.1 x.2.2.1 x.2.2.2) :
    RepB Z1 (fun b => b < Z1.heap.size) (its.map IB.bd) (some ⟨Z.heap.size, 0, none⟩) its.length ∧ Below Z.heap.size Z Z1 := by
  have hb : Below Z.heap.size Z Z1 := by rw [h]; exact below1 (Nat.le_refl _) _
  refine ⟨repB_cells its (by rw [h]; exact heap_alloc_new _ _) (by rw [h]; simp) (fun x hx => ⟨(hr x hx).1.go hb hb.size, (hr x hx).2.go hb hb.size⟩) hlen, hb⟩
end Go.Proofs.YtipmibjhlpnhjaaGreatDoor
