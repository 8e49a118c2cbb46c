/- Ulaw0 (joined by shake.py). -/
import Derived.Test.YtmajbopjaejliaaGreatDoorR12
import Derived.Test.YtmajbopjaejliaaGreatDoorR17
namespace Go.Proofs.YtmajbopjaejliaaGreatDoor
open Go.RowKit Go.Sort
/-- an operation that is not wanted -/
theorem mix4_off {P : Program} {ops : Array Oper} {Q : Exit → Act → World → Prop} {S S2 : World → Prop} {wk : List Nat} {i : Nat} {r : Mx3} {a : Act} {w : World} {o : Oper} (ho : ops[i]? = some o) (hg : Region.wanted o (yielded ops a.tmps) = false) (_hw : wk.contains i = false) (hQ : ∀ c a' w', Q (.panic c) (a'.put o.dst undef) w' → Q (.panic c) a' w')
    (hS : S w) (hS2 : S2 w) (h : wpMix4 P ops Q S S2 wk r (a.put o.dst undef) w) : wpMix4 P ops Q S S2 wk (.held i r) a w :=
  ⟨⟨fun _ => hS, hS2⟩, o, undef, ho, Or.inr ⟨hg, rfl⟩, hQ, h⟩
theorem rapplyF (s : List Bd) (t : Tm) (S0 A : Option Addr) (sc c : Nat) (w : World) (hs : SizeB s) (ht : t.size ≤ 1000000) (hrs : RepB w (fun b => b < w.heap.size) s S0 sc) (hrt : RepT w w.heap.size t A c) :
    Calls Tryz.prog 16 #[.slice S0 s.length sc, t.val A c] w fun e w' => ∃ A' c', e = .returned ((t.rap s).val A' c') ∧ RepT w' w'.heap.size (t.rap s) A' c' ∧ Below w.heap.size w w' :=
  (rapply3_any w.heap.size s S0 sc hs t.size t A c w (Nat.le_refl _) ht (Nat.le_refl _) hrs hrt).mono fun _ w' ⟨A', c', e, hr, hb⟩ =>
    ⟨A', c', e, RepP.mono (fun b h => by have := hb.size; show b < w'.heap.size; omega) (fun _ _ => rfl) _ _ _ hr, hb⟩
end Go.Proofs.YtmajbopjaejliaaGreatDoor
