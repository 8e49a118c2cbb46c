/- What the parser reads: the plain function. -/
import Derived.Test.YtbgkabgbgbebaaaDoorSorts
namespace Go.Proofs.YtbgkabgbgbebaaaDoor

mutual
/-- a term at the head of a text, and the rest; the fuel is twice the text's length, and one -/
def pterm : Nat → List UInt8 → Option (Tm × List UInt8)
  | 0, _ => none
  | n + 1, l =>
    if nameL ((if Lib.hasPrefix l [63] then l.drop 1 else l).takeWhile partB) = false then none
    else if Lib.hasPrefix l [63] = true then pvar ⟨((l.drop 1).takeWhile partB).toArray⟩ ((l.drop 1).drop (wlen (l.drop 1)))
    else if Lib.hasPrefix (l.drop (wlen l)) [40] = false then patom ⟨(l.takeWhile partB).toArray⟩ (l.drop (wlen l))
    else pkids n ⟨(l.takeWhile partB).toArray⟩ [] ((l.drop (wlen l)).drop 1)
def pvar (w : ByteArray) (l : List UInt8) : Option (Tm × List UInt8) :=
  if Lib.hasPrefix l [58] = true then (if (sorts 1 l).2.1 = true then some (.mk 1 w (sorts 1 l).1 [], l.drop (sorts 1 l).2.2) else none) else some (.mk 1 w 0 [], l)
def patom (w : ByteArray) (l : List UInt8) : Option (Tm × List UInt8) :=
  if (sorts 0 l).2.1 = true then some (.mk 2 w (sorts 0 l).1 [], l.drop (sorts 0 l).2.2) else none
/-- the kids that are still to come -/
def pkids : Nat → ByteArray → List Tm → List UInt8 → Option (Tm × List UInt8)
  | 0, _, _, _ => none
  | n + 1, w, acc, l =>
    if Lib.hasPrefix l [41] = true then some (.mk 3 w 0 acc, l.drop 1)
    else if acc ≠ [] ∧ Lib.hasPrefix l [44, 32] = false then none
    else match pterm n (if acc ≠ [] then l.drop 2 else l) with
      | none => none
      | some (k, r) => pkids n w (acc ++ [k]) r
end
def parse (l : List UInt8) : Option Tm :=
  match pterm (2 * l.length + 1) l with
  | some (t, []) => some t
  | _ => none
example : (pterm 35 [112, 97, 105, 114, 40, 63, 120, 44, 32, 97, 58, 110, 111, 110, 99, 101, 41]).isSome = true := by decide
end Go.Proofs.YtbgkabgbgbebaaaDoor
