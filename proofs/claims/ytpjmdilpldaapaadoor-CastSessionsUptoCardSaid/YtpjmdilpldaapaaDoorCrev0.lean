/- What the two Reveals answer. -/
import Derived.Test.YtpjmdilpldaapaaDoorCrows
import Derived.Test.YtpjmdilpldaapaaDoorCvalid
import Derived.Test.YtpjmdilpldaapaaDoorCfind
namespace Go.Proofs.YtpjmdilpldaapaaDoor
open Go.RowKit Go.Sort

def revEr (ags bad : List ByteArray) (x : ByteArray) : Int := if castE ags bad = 0 then (if hasS ags x = true then (if hasS bad x = true then 5 else 0) else 4) else castE ags bad
def revA (ags bad : List ByteArray) (x : ByteArray) : List ByteArray := if revEr ags bad x = 0 then ags else []
def revB (ags bad : List ByteArray) (x : ByteArray) : List ByteArray := if revEr ags bad x = 0 then revC ags bad x else []
def RevOf (w : World) (er : Int) (ra rb : List ByteArray) (e : Ending) (w' : World) : Prop :=
  ∃ A c B d, e = .returned (.tuple #[castV ra rb A c B d, .int .i64 er]) ∧ CastW w' ra rb A c B d ∧ Below w.heap.size w w'
def revN (ags bad : List ByteArray) (x : ByteArray) (k : Nat) : List ByteArray := revC (ags.take k) bad x
theorem revN_succ (ags bad : List ByteArray) (x : ByteArray) (k : Nat) (h : k < ags.length) :
    revN ags bad x (k + 1) = if ags[k] = x ∨ hasS bad ags[k] = true then revN ags bad x k ++ [ags[k]] else revN ags bad x k := by
  unfold revN revC
  rw [List.take_succ_eq_append_getElem h, List.filter_append]
  by_cases h1 : ags[k] = x ∨ hasS bad ags[k] = true
  · rw [if_pos h1, List.filter_cons_of_pos (by rcases h1 with h1 | h1 <;> simp [h1])]; rfl
  · rw [if_neg h1, List.filter_cons_of_neg (by rw [not_or] at h1; simp [h1.1, h1.2])]; simp
theorem revN_all (ags bad : List ByteArray) (x : ByteArray) : revN ags bad x ags.length = revC ags bad x := by unfold revN; rw [List.take_length]
theorem revC_length (ags bad : List ByteArray) (x : ByteArray) : (revC ags bad x).length ≤ ags.length := List.length_filter_le _ _
theorem revN_length (ags bad : List ByteArray) (x : ByteArray) (k : Nat) : (revN ags bad x k).length ≤ k := by
  have := revC_length (ags.take k) bad x
  rw [List.length_take] at this
  unfold revN; omega
theorem revC_mem {ags bad : List ByteArray} {x y : ByteArray} (h : y ∈ revC ags bad x) : y ∈ ags := (List.mem_filter.1 h).1
theorem cast2_cells {W : World} {B : Nat} {a b : Value} {T : TypeId} (h : W.heap[B]? = some (.cells #[a, b] T (0, 0))) :
    W.cell? ⟨B, 0, none⟩ = some a ∧ W.cell? ⟨B, 1, none⟩ = some b ∧ ∀ o, W.frozen? ⟨B, o, none⟩ = false := by
  refine ⟨?_, ?_, fun o => ?_⟩ <;> simp [World.cell?, World.frozen?, h]
theorem cast2_set1 {W : World} {B : Nat} {a b u : Value} {T : TypeId} (h : W.heap[B]? = some (.cells #[a, b] T (0, 0))) : (W.setCell ⟨B, 1, none⟩ u).heap[B]? = some (.cells #[a, u] T (0, 0)) := by
  simp [World.setCell, Array.getElem?_modify, h]
/-- while the second Cast's Bad is built -/
structure RevIn (w W3 wr : World) (h7 : Nat) (ags bad : List ByteArray) (Aa : Option Addr) (ca : Nat) (Ab : Option Addr) (cb : Nat) (A3 : Option Addr) (c3 : Nat) (x : ByteArray) (k : Nat) (v : Value) : Prop where
  below : Below h7 W3 wr
  box : wr.heap[h7]? = some (.cells #[.slice A3 ags.length c3, v] 24 (0, 0))
  row : wr.ownsRow (h7 + 1) 9 1 v (revN ags bad x k).length (strs (revN ags bad x k))
end Go.Proofs.YtpjmdilpldaapaaDoor
