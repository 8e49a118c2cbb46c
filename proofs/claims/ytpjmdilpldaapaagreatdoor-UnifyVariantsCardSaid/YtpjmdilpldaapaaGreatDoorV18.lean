/- Ulaw0 (joined by shake.py). -/
import Derived.Test.YtpjmdilpldaapaaGreatDoorV12
import Derived.Test.YtpjmdilpldaapaaGreatDoorV17
namespace Go.Proofs.YtpjmdilpldaapaaGreatDoor
open Go.RowKit Go.Sort
theorem qfd {P : Program} {ops : Array Oper} {Q : Exit → Act → World → Prop} {S S2 : World → Prop} {wk : List Nat} {i : Nat} {r : Mx3} {a : Act} {w : World} {o : Oper} (ho : ops[i]? = some o) (hg : Region.wanted o (yielded ops a.tmps) = false) (_hw : wk.contains i = false) (hQ : ∀ c a' w', Q (.panic c) (a'.put o.dst undef) w' → Q (.panic c) a' w')
  (hS : S w) (hS2 : S2 w) (h : qaz P ops Q S S2 wk r (a.put o.dst undef) w) : qaz P ops Q S S2 wk (.held i r) a w :=
 ⟨⟨fun _ => hS, hS2⟩, o, undef, ho, Or.inr ⟨hg, rfl⟩, hQ, h⟩
end Go.Proofs.YtpjmdilpldaapaaGreatDoor
