/- Ukept (joined by shake.py). -/
import Derived.Test.YtpjmdilpldaapaaGreatDoorS7
namespace Go.Proofs.YtpjmdilpldaapaaGreatDoor
open Go.RowKit Go.Sort
structure Kept (S : Nat → Prop) (w w' : World) : Prop where
 size : w.heap.size ≤ w'.heap.size
 same : ∀ b, b < w.heap.size → ¬ S b → w'.heap[b]? = w.heap[b]?
 os : w'.os = w.os
 tape : w'.tape = w.tape
 output : w'.output = w.output
theorem Kept.trans {S : Nat → Prop} {a b c : World} (h : Kept S a b) (k : Kept S b c) : Kept S a c :=
 ⟨Nat.le_trans h.size k.size, fun x hx hs => (k.same x (Nat.lt_of_lt_of_le hx h.size) hs).trans (h.same x hx hs), k.os.trans h.os, k.tape.trans h.tape, k.output.trans h.output⟩
theorem Kept.refl (S : Nat → Prop) (w : World) : Kept S w w := ⟨Nat.le_refl _, fun _ _ _ => rfl, rfl, rfl, rfl⟩
theorem Kept.mono {S S' : Nat → Prop} {w w' : World} (h : Kept S w w') (hS : ∀ b, S b → S' b) : Kept S' w w' := ⟨h.size, fun b hb hs => h.same b hb fun h => hs (hS b h), h.os, h.tape, h.output⟩
theorem Kept.below {S : Nat → Prop} {w w' : World} {B : Nat} (h : Kept S w w') (hB : B ≤ w.heap.size) (hS : ∀ b, b < B → ¬ S b) : Below B w w' :=
 ⟨h.os, h.tape, h.output, h.size, fun b hb => h.same b (Nat.lt_of_lt_of_le hb hB) (hS b hb)⟩
theorem Kept.cell {S : Nat → Prop} {w w' : World} (h : Kept S w w') {p : Addr} (hb : p.block < w.heap.size) (hS : ¬ S p.block) : w'.cell? p = w.cell? p := World.cell?_of_block (h.same _ hb hS)
theorem qml {W : World} {g o : Nat} {x y z v : Value} {k : Nat} (hk : k ≠ g) : ((((W.setCell ⟨g, o, none⟩ x).setCell ⟨g, o + 1, none⟩ y).setCell ⟨g, o + 2, none⟩ z).setCell ⟨g, o + 3, none⟩ v).heap[k]? = W.heap[k]? := by
 iterate 4 rw [Below.heap_setCell _ _ _ _ (by exact hk)]
theorem set4_size {W : World} {g o : Nat} {x y z v : Value} : ((((W.setCell ⟨g, o, none⟩ x).setCell ⟨g, o + 1, none⟩ y).setCell ⟨g, o + 2, none⟩ z).setCell ⟨g, o + 3, none⟩ v).heap.size = W.heap.size := by simp [World.setCell]
theorem qbl {W : World} {B : Nat} {a u : Value} {T : TypeId} (h : W.heap[B]? = some (.cells #[a] T (0, 0))) : (W.setCell ⟨B, 0, none⟩ u).heap[B]? = some (.cells #[u] T (0, 0)) := by
 simp [World.setCell, Array.getElem?_modify, h]
theorem qc5.kept {G : Nat → Prop} {u : Tm} {g o rb : Nat} {q : Bool} {w w' : World} {e : Ending} (h : qc5 G u g o rb q w e w') (hrg : rb ≠ g) (hr : w.heap[rb]? = some (.cells #[.bool q] 4 (0, 0))) :
  Kept (fun b => b = g ∨ b = rb) w w' ∧ w'.heap[rb]? = some (.cells #[.bool (q && decide (u.valid = 0))] 4 (0, 0)) := by
 obtain ⟨-, A, c, Y, Z, h1, h2, h3, rfl⟩ := h;have hrl := (Array.getElem?_eq_some_iff.1 hr).1;have s1 := h1.size;have s3 := h3.size;rw [set4_size] at s3;have blk : ∀ k, k < w.heap.size → k ≠ g → Z.heap[k]? = w.heap[k]? := fun k hk hg => by
  rw [h3.block k (by omega), qml hg, h1.block k hk]
 refine ⟨⟨?_, fun b hb hs => ?_, ?_, ?_, ?_⟩, qbl ((blk rb hrl hrg).trans hr)⟩
 ·show w.heap.size ≤ (Z.setCell ⟨rb, 0, none⟩ (.bool (q && decide (u.valid = 0)))).heap.size;simp [World.setCell]; omega
 ·rw [Below.heap_setCell _ _ _ _ (by intro e; exact hs (.inr e))];exact blk b hb fun e => hs (.inl e)
 ·exact h3.os.trans h1.os
 ·exact h3.tape.trans h1.tape
 ·exact h3.output.trans h1.output
theorem qc5.row {T : TypeId} {base : Nat} {F G : Nat → Prop} {u : Tm} {g n cap i rb : Nat} {its : List IB} {q : Bool} {w w' : World} {e : Ending} (hrow : RowG T w base F (.slice (some ⟨g, 0, none⟩) n cap) its) (hn : n = its.length) (hi : i < its.length)
  (hGF : ∀ k, G k → F k ∧ k < w.heap.size ∧ k ≠ g) (hF : ∀ k, w.heap.size ≤ k → F k) (hrF : ¬ F rb) (hrg : rb ≠ g) :
  (qc5 G u g (i * 8) rb q w e w' → ∃ A c, RowG T w' base F (.slice (some ⟨g, 0, none⟩) n cap) (its.set i ((u, A, c), its[i].2))) ∧
  (qc5 G u g (i * 8 + 4) rb q w e w' → ∃ A c, RowG T w' base F (.slice (some ⟨g, 0, none⟩) n cap) (its.set i (its[i].1, (u, A, c)))) := by
 have hgl := (hrow.lt g rfl).2;have key : ∀ (its' : List IB) (Y Y4 Z : World), Below w.heap.size w Y → Y4.heap.size = Y.heap.size → RowG T Y4 base F (.slice (some ⟨g, 0, none⟩) n cap) its' → Below Y.heap.size Y4 Z → RowG T (Z.setCell ⟨rb, 0, none⟩ (.bool (q && decide (u.valid = 0)))) base F (.slice (some ⟨g, 0, none⟩) n cap) its' := fun its' Y Y4 Z h1 h2 h3 h4 => by
  have h5 : RowG T Z base F (.slice (some ⟨g, 0, none⟩) n cap) its' := h3.below (by rw [h2]; exact h4);refine h5.keep (by simp [World.setCell]) (fun b hb hor => Below.heap_setCell _ _ _ _ ?_);rintro rfl;rcases hor with h | h
  ·exact hrF h
  ·injection h with h; exact hrg h.symm
 have rep : ∀ (Y : World) (A : Option Addr) (c : Nat), Below w.heap.size w Y → RepP Y (fun k => G k ∨ (w.heap.size ≤ k ∧ k < Y.heap.size)) u A c → RepP Y (fun b => F b ∧ b < Y.heap.size ∧ g ≠ b) u A c := fun Y A c h1 h2 =>
  RepP.mono (fun k h => by
   have s := h1.size;rcases h with h | ⟨h3, h4⟩
   ·obtain ⟨a, b, d⟩ := hGF k h; exact ⟨a, by omega, fun e => d e.symm⟩
   ·exact ⟨hF k h3, h4, by omega⟩) (fun _ _ => rfl) _ _ _ h2
 constructor
 ·rintro ⟨-, A, c, Y, Z, h1, h2, h3, rfl⟩;exact ⟨A, c, key _ Y _ Z h1 set4_size ((hrow.below h1).set0 hn i hi (u, A, c) (rep Y A c h1 h2)) h3⟩
 ·rintro ⟨-, A, c, Y, Z, h1, h2, h3, rfl⟩;exact ⟨A, c, key _ Y _ Z h1 set4_size ((hrow.below h1).set1 hn i hi (u, A, c) (rep Y A c h1 h2)) h3⟩
end Go.Proofs.YtpjmdilpldaapaaGreatDoor
