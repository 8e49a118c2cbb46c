/- What the row's list of tables gives: strconv.Itoa's numerals. -/
import Derived.Test.YtpjmdilpldaapaaGreatDoorK12
import Derived.Test.YtpjmdilpldaapaaGreatDoorRows
import Derived.Lib.LaidTab
namespace Go.Proofs.YtpjmdilpldaapaaGreatDoor
open Go.ChangeShapes Go.WideShapes Go.Deep Go.Joins Go.RowKit Go.Sort
theorem gPow : Tryz.prog.globalNamed "internal/strconv.uint64pow10" = some 1 := by kernel_rfl
def qig : List (String × DataW Unit) := [("math/bits.deBruijn32tab", Rows.laid_math_bits_deBruijn32tab), ("math/bits.deBruijn64tab", Rows.laid_math_bits_deBruijn64tab), ("internal/strconv.uint64pow10", Rows.laid_internal_strconv_uint64pow10)]
theorem tab_pow {W : World} (h : laidMetH Tryz.prog qig W) : Lib.TabIs Tryz.prog W "internal/strconv.uint64pow10" .u64 Lib.pow10Tab := by
 have h' : laidMet Tryz.prog qig W := h;obtain ⟨ps, ⟨_, _, _, _, _, _, _, _, _, _, ⟨_, _, _, _, _, _, _, _, _, _, ⟨g', t', cs, fuel, p, q, hg', ht', hvar, hd, -, -⟩, -⟩, -⟩, -⟩ := h';obtain rfl := Option.some.inj (gPow.symm.trans hg');have hty : (Tryz.prog.globals[1]?).map (·.type) = some 152 := by kernel_rfl
 obtain rfl := Option.some.inj (hty.symm.trans ht');have hd' : DataW.trod (fun _ => ()) Tryz.prog W 0 (fun _ => true) false fuel 152 cs.toList = some (Lib.tabData .u64 Lib.pow10Tab, p) := by
  rw [hd];rfl
 unfold Lib.TabIs;rw [hvar, ← Lib.cells_of_tab (n := 20) (e := 139) (by kernel_rfl) (by kernel_rfl) (by kernel_rfl) (by kernel_rfl) hd']
theorem TabIs.below {W X : World} {zs : List Int} (h : Lib.TabIs Tryz.prog W "internal/strconv.uint64pow10" .u64 zs) (hb : Below W.heap.size W X) : Lib.TabIs Tryz.prog X "internal/strconv.uint64pow10" .u64 zs := by
 unfold Lib.TabIs World.var? at h ⊢;rw [gPow] at h ⊢;dsimp only [Option.bind_some] at h ⊢;have hlt : 1 < W.heap.size := Classical.byContradiction fun hn => by
  rw [Array.getElem?_eq_none (by omega)] at h;cases h
 rw [hb.block _ hlt];exact h
theorem qji {W : World} (h : laidMetH Tryz.prog qig W) (M : Nat) (hM : M ≤ 1000000) : qb7 M W := fun i X hi hX =>
 (Tryz.strconv_Itoa (i : Int) (by omega) (by omega) X (TabIs.below (tab_pow h) hX)).mono fun e w' h => by
  obtain ⟨h1, k, os, rfl⟩ := h;refine ⟨?_, Lay.of_grow k os⟩;rw [h1, show Lib.itoa (i : Int) = Lib.decDigits i by unfold Lib.itoa; rw [if_neg (by omega)]; rfl]
end Go.Proofs.YtpjmdilpldaapaaGreatDoor
