/- What stands while a law on casts is walked. -/
import Derived.Test.YtpjmdilpldaapaaDoorCawake
import Derived.Test.YtpjmdilpldaapaaDoorCrinit
namespace Go.Proofs.YtpjmdilpldaapaaDoor
open Go.RowKit Go.Sort
/-- the cast's box, and what it holds -/
structure CBox (W : World) (B : Nat) (ags bad : List ByteArray) (Aa : Option Addr) (ca : Nat) (Ab : Option Addr) (cb : Nat) : Prop where
  box : W.heap[B]? = some (boxC ags bad Aa ca Ab cb)
  cast : CastW W ags bad Aa ca Ab cb
theorem CBox.go {W W' : World} {B : Nat} {ags bad : List ByteArray} {Aa Ab : Option Addr} {ca cb : Nat} (h : CBox W B ags bad Aa ca Ab cb) (hb : Below W.heap.size W W') : CBox W' B ags bad Aa ca Ab cb :=
  ⟨(hb.block _ (Array.getElem?_eq_some_iff.1 h.box).1).trans h.box, h.cast.below hb⟩
end Go.Proofs.YtpjmdilpldaapaaDoor
