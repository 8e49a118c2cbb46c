/- A term in a block of its own, and what a budget of nodes says on sizes. -/
import Derived.Test.YtbgkabgbgbebaaaDoorGuard
import Derived.Test.YtbgkabgbgbebaaaDoorSorts
namespace Go.Proofs.YtbgkabgbgbebaaaDoor
open Go.RowKit

def boxOf (t : Tm) (A : Option Addr) (c : Nat) : Obj := .cells #[.int .i64 t.kind, .string t.name, .int .i64 t.sort, .slice A t.kids.length c] 24
/-- The term t lies in block B, its kids in blocks that are there. -/
def BoxT (V : World) (B : Nat) (t : Tm) (A : Option Addr) (c : Nat) : Prop := V.heap[B]? = some (boxOf t A c) ∧ RepT V V.heap.size t A c
theorem BoxT.lt {V : World} {B : Nat} {t : Tm} {A : Option Addr} {c : Nat} (h : BoxT V B t A c) : B < V.heap.size := (Array.getElem?_eq_some_iff.1 h.1).1
theorem BoxT.below {V V' : World} {B : Nat} {t : Tm} {A : Option Addr} {c : Nat} (h : BoxT V B t A c) (hb : Below V.heap.size V V') : BoxT V' B t A c :=
  ⟨by rw [hb.block B h.lt]; exact h.1, h.2.go hb hb.size⟩
theorem BoxT.new {V : World} {t : Tm} {A : Option Addr} {c : Nat} (h : RepT V V.heap.size t A c) : BoxT (V.alloc (boxOf t A c)) V.heap.size t A c :=
  ⟨heap_alloc_new _ _, h.go (below1 (Nat.le_refl _) _) (by simp)⟩
theorem BoxT.cells {V : World} {B : Nat} {t : Tm} {A : Option Addr} {c : Nat} (h : BoxT V B t A c) :
    V.cell? ⟨B, 0, none⟩ = some (.int .i64 t.kind) ∧ V.cell? ⟨B, 1, none⟩ = some (.string t.name) ∧ V.cell? ⟨B, 2, none⟩ = some (.int .i64 t.sort) ∧ V.cell? ⟨B, 3, none⟩ = some (.slice A t.kids.length c) ∧ ∀ o, V.frozen? ⟨B, o, none⟩ = false := box_at h.1
theorem Words.below {w w' : World} (h : Words w.heap.size w) (hb : Below w.heap.size w w') : Words w'.heap.size w' := (h.keep (fun b hb' => hb.block b hb')).up hb.size
theorem repT_of {w : World} {B : Nat} {t : Tm} {A : Option Addr} {c : Nat} (h : RepP w (fun b => B ≤ b ∧ b < w.heap.size) t A c) : RepT w w.heap.size t A c := RepP.mono (fun _ h => h.2) (fun _ _ => rfl) _ _ _ h
theorem below_then {B : Nat} {a b c : World} (h : Below B a b) (k : Below b.heap.size b c) (hB : B ≤ b.heap.size) : Below B a c := h.trans (k.mono hB)

/-- a block of terms one behind the other, as a slice -/
theorem repS_cells {w : World} {P : Nat → Prop} {b : Nat} {T : TypeId} (its : List It) (hB : w.heap[b]? = some (.cells (itCells its).toArray T (0, 0))) (hb : P b) (hr : ∀ x ∈ its, RepP w P x.1 x.2.1 x.2.2) (hlen : its.length ≤ 1000) :
    RepS w P (its.map (·.1)) (some ⟨b, 0, none⟩) its.length := by
  refine ⟨by simp, by simp [maxLen]; omega, .inr ⟨b, 0, rfl, hb, RepLP.of_its its b 0 (fun j u hj => ?_) hr⟩⟩
  simp [World.cell?, hB, hj]

mutual
theorem Tm.left_size : ∀ (t : Tm) (m : Int), 0 ≤ t.left m → (t.size : Int) + t.left m ≤ m
  | .mk _ n _ l, m, h => by
    rw [Tm.left] at h ⊢; rw [Tm.size]
    split at h
    · omega
    · rename_i hc
      rw [if_neg hc]
      have := Tm.lefts_size l (m - 1) (by omega) h
      push_cast; omega
theorem Tm.lefts_size : ∀ (l : List Tm) (m : Int), 0 ≤ m → 0 ≤ Tm.lefts l m → (Tm.sizes l : Int) + Tm.lefts l m ≤ m
  | [], m, _, _ => by rw [Tm.lefts, Tm.sizes]; omega
  | t :: r, m, hm, h => by
    rw [Tm.lefts] at h ⊢; rw [Tm.sizes]
    split at h
    · omega
    · rename_i hc
      rw [if_neg hc]
      have h1 := Tm.left_size t m (by omega)
      have h2 := Tm.lefts_size r (t.left m) (by omega) h
      push_cast; omega
end
theorem Tm.lefts_each {l : List Tm} {m : Int} (hm : 0 ≤ m) (h : 0 ≤ Tm.lefts l m) : ∀ t ∈ l, (t.size : Int) ≤ m := by
  have h1 := Tm.lefts_size l m hm h
  intro t ht
  obtain ⟨i, hi, rfl⟩ := List.getElem_of_mem ht
  have := Tm.sizes_get l i hi
  omega
end Go.Proofs.YtbgkabgbgbebaaaDoor
