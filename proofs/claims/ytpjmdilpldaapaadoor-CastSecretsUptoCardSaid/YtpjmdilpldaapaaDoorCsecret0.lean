/- A key is known at first exactly if one of its atoms is not honest. -/
import Derived.Test.YtpjmdilpldaapaaDoorClist
namespace Go.Proofs.YtpjmdilpldaapaaDoor
open Go.RowKit Go.Sort
theorem any_set (l : List Tm) (f : Tm → Bool) : (Tm.set l).any f = l.any f := by
  rw [Bool.eq_iff_iff]
  simp only [List.any_eq_true, Tm.mem_set]
theorem honest_not {ags bad : List ByteArray} (h : castE ags bad = 0) {a : ByteArray} (ha : a ∈ ags) : (!honestC ags bad a) = hasS bad a := by
  unfold honestC
  rw [decide_eq_true h, (hasS_iff _ _).2 ha]
  simp
def atT (t : Tm) : List Tm := Tm.set (t.all.filter fun u => u.kind == 2)
theorem atT_sk (a : ByteArray) : (skT a).all.filter (fun u => u.kind == 2) = [agT a] := by simp [skT, agT, Tm.all, Tm.alls, Tm.kind]
theorem atT_sh (a b : ByteArray) : (shT a b).all.filter (fun u => u.kind == 2) = [agT a, agT b] := by simp [shT, agT, Tm.all, Tm.alls, Tm.kind]
theorem secret_key {ags bad : List ByteArray} (h : castE ags bad = 0) {t : Tm} (ht : t ∈ keysE ags bad) : decide (t ∈ initE ags bad) = (atT t).any (fun u => !honestC ags bad u.name) := by
  unfold keysE at ht
  unfold initE atT
  rw [if_pos h] at ht ⊢
  rw [any_set]
  rcases (mem_keysK _ _ _ _).1 ((Tm.mem_set _ _).1 ht) with ⟨a, ha, _, rfl⟩ | ⟨a, ha, b, hb, hne, _, rfl⟩
  · rw [atT_sk, Bool.eq_iff_iff, decide_eq_true_eq, secrets_sk ha, ← hasS_iff, ← honest_not h ha]
    simp [agT, Tm.name]
  · rw [atT_sh, Bool.eq_iff_iff, decide_eq_true_eq, secrets_sh ha hb hne, ← hasS_iff, ← hasS_iff, ← honest_not h ha, ← honest_not h hb]
    simp [agT, Tm.name]
end Go.Proofs.YtpjmdilpldaapaaDoor
