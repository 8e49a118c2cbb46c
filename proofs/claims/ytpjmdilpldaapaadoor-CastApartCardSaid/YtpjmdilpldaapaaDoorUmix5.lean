/- Guarded operations in the walk along a tree of orders (Umix4). -/
import Derived.Test.YtpjmdilpldaapaaDoorUmix4
namespace Go.Proofs.YtpjmdilpldaapaaDoor
theorem mix5_take_g {P : Program} {ops : Array Oper} {Q : Exit → Act → World → Prop} {S S2 : World → Prop} {wk : List Nat} {i : Nat} {r : Mx3} {a : Act} {w : World} {o : Oper} {v : Value} (ho : ops[i]? = some o) (hg : Region.wanted o (yielded ops a.tmps) = true) (hw : wk.contains i = false) (hQ : ∀ c a' w', Q (.panic c) (a'.put o.dst v) w' → Q (.panic c) a' w')
    (hS : S w) (hS2 : S2 w) (hv : ∀ w, S w → S2 w → (execOp a.eval o).run P w = .ok (.value v) w) (h : wpMix4 P ops Q S S2 wk r (a.put o.dst v) w) : wpMix4 P ops Q S S2 wk (.held i r) a w :=
  ⟨⟨fun _ => hS, hS2⟩, o, v, ho, Or.inl ⟨hg, fun w h => hv w (h.1 hw) h.2⟩, hQ, h⟩
/-- an operation that is not wanted -/
theorem mix5_off {P : Program} {ops : Array Oper} {Q : Exit → Act → World → Prop} {S S2 : World → Prop} {wk : List Nat} {i : Nat} {r : Mx3} {a : Act} {w : World} {o : Oper} (ho : ops[i]? = some o) (hg : Region.wanted o (yielded ops a.tmps) = false) (_hw : wk.contains i = false) (hQ : ∀ c a' w', Q (.panic c) (a'.put o.dst undef) w' → Q (.panic c) a' w')
    (hS : S w) (hS2 : S2 w) (h : wpMix4 P ops Q S S2 wk r (a.put o.dst undef) w) : wpMix4 P ops Q S S2 wk (.held i r) a w :=
  ⟨⟨fun _ => hS, hS2⟩, o, undef, ho, Or.inr ⟨hg, rfl⟩, hQ, h⟩
end Go.Proofs.YtpjmdilpldaapaaDoor
