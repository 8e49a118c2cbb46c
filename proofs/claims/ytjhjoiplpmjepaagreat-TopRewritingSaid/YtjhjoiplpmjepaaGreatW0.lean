/- Short words for much-used facts. -/
import Derived.Test.YtjhjoiplpmjepaaGreatProg
import Derived.Below
import Derived.Lib.Hide
namespace Go.Proofs.YtjhjoiplpmjepaaGreat
open Go.RowKit
theorem hdzz {p:Prop} (h:p):Hid p:=h
theorem sbtz {D X Y:World} (H:Hid (Below D.heap.size D X)) (h:Below X.heap.size X Y):Hid (Below D.heap.size D Y):=Below.trans H (Below.mono h (Below.size H))
theorem sltz {X:World} {b:Nat} {c:Obj} (h:X.heap[b]?=some c):b<X.heap.size:=(Array.getElem?_eq_some_iff.1 h).1
theorem sblz {X Y:World} {b:Nat} {c:Obj} (h:Below X.heap.size X Y) (H:Hid (X.heap[b]?=some c)):Hid (Y.heap[b]?=some c):=(h.block _ (sltz H)).trans H
theorem sclz {n:Nat} {X Y:World} {b o:Nat} {v:Value} (h:Below n X Y) (e:X.cell? ⟨b,o,none⟩=some v) (hb:b<n):Y.cell? ⟨b,o,none⟩=some v:=(h.cell hb).trans e
theorem fsa {α:Type _} {l:List α} {i:Nat} {a:α}:l.toArray.setIfInBounds i a=(l.set i a).toArray:=List.setIfInBounds_toArray ..
theorem fsb {α:Type _} {x b:α} {l:List α} {i:Nat}:(x::l).set (i+1) b=x::l.set i b:=rfl
theorem fsc {α:Type _} {x b:α} {l:List α}:(x::l).set 0 b=b::l:=rfl
theorem fsd {α:Type _} {l:List α} {i:Nat} (h:i<l.toArray.size):l.toArray[i]=l[i]'(by simpa using h):=rfl
theorem fse {α:Type _} {x:α} {l:List α} {i:Nat} (h:i+1<(x::l).length):(x::l)[i+1]'h=l[i]'(Nat.lt_of_succ_lt_succ h):=rfl
theorem fsf {α:Type _} {x:α} {l:List α} (h:0<(x::l).length):(x::l)[0]'h=x:=rfl
theorem mixz:Tryz.prog.follows .mixedOrders=true:=by kernel_rfl
end Go.Proofs.YtjhjoiplpmjepaaGreat
