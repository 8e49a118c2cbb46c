/- The examples that every law of the layer checks first: plain. -/
import Derived.Test.YtipmibjhlpnhjaaGreatDoorSformat
namespace Go.Proofs.YtipmibjhlpnhjaaGreatDoor
def sX : Tm := .mk 1 ⟨#[120]⟩ 0 []
def sY : Tm := .mk 1 ⟨#[121]⟩ 0 []
def sN : Tm := .mk 1 ⟨#[110]⟩ 2 []
def sA : Tm := .mk 2 ⟨#[97]⟩ 0 []
def sB : Tm := .mk 2 ⟨#[98]⟩ 0 []
def sF : Tm := .mk 3 ⟨#[102]⟩ 0 [sY, sA]
def sFB : Tm := .mk 3 ⟨#[102]⟩ 0 [sB, sA]
def sG : Tm := .mk 3 ⟨#[103]⟩ 0 [sX]
def sGF : Tm := .mk 3 ⟨#[103]⟩ 0 [sF]
theorem aw_apply : ApplyE [(sX, sF)] sG = (sGF, 0) := by decide
theorem aw_comp1 : composeE [(sX, sF)] [(sY, sB)] = ([(sX, sFB), (sY, sB)], 0) := by decide
theorem aw_comp2 : composeE [(sX, sY)] [(sY, sX)] = ([(sY, sX)], 0) := by decide
theorem aw_form : FormatE [(sX, sF)] = ([123, 63, 120, 32, 61, 32, 102, 40, 63, 121, 44, 32, 97, 58, 97, 110, 121, 41, 125], 0) := by rfl
theorem aw_val1 : validS [(sN, sA)] = 10 := by decide
theorem aw_val2 : validS [(sX, sX)] = 1 := by decide
end Go.Proofs.YtipmibjhlpnhjaaGreatDoor
