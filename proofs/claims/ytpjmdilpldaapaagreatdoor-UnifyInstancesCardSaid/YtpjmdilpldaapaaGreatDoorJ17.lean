/- Ulaw0 (joined by shake.py). -/
import Derived.Test.YtpjmdilpldaapaaGreatDoorJ12
import Derived.Test.YtpjmdilpldaapaaGreatDoorJ16
namespace Go.Proofs.YtpjmdilpldaapaaGreatDoor
open Go.RowKit Go.Sort
theorem rapplyF (s : List Bd) (t : Tm) (S0 A : Option Addr) (sc c : Nat) (w : World) (hs : qfy s) (ht : t.size ≤ 1000000) (hrs : RepB w (fun b => b < w.heap.size) s S0 sc) (hrt : RepT w w.heap.size t A c) :
  Calls Tryz.prog 16 #[.slice S0 s.length sc, t.val A c] w fun e w' => ∃ A' c', e = .returned ((t.rap s).val A' c') ∧ RepT w' w'.heap.size (t.rap s) A' c' ∧ Below w.heap.size w w' :=
 (qdz w.heap.size s S0 sc hs t.size t A c w (Nat.le_refl _) ht (Nat.le_refl _) hrs hrt).mono fun _ w' ⟨A', c', e, hr, hb⟩ =>
  ⟨A', c', e, RepP.mono (fun b h => by have := hb.size; show b < w'.heap.size; omega) (fun _ _ => rfl) _ _ _ hr, hb⟩
end Go.Proofs.YtpjmdilpldaapaaGreatDoor
