/- The sizes and depths of terms, in the program and in the reference; the guards. -/
import Derived.Test.YtbgkabgbgbebaaaDoorTm
import Derived.Test.YtbgkabgbgbebaaaDoorProg
import Derived.Deep.LoopGhost
import Derived.Lib.Hide
namespace Go.Proofs.YtbgkabgbgbebaaaDoor
open Go.RowKit

theorem ret_int {k : IntKind} {a b : Int} (h : a = b) : Ending.returned (.int k a) = .returned (.int k b) := by rw [h]

set_option maxHeartbeats 800000 in
theorem size_any (n : Nat) : ∀ (t : Tm) (A : Option Addr) (cap : Nat) (w : World), t.size ≤ n → n ≤ 1000000 → RepT w w.heap.size t A cap →
    Calls Tryd.prog 13 #[t.val A cap] w fun e w' => e = .returned (.int .i64 t.size) ∧ Lay w.heap.size w w' := by
  induction n with
  | zero => intro t _ _ _ h; have := t.size_pos; omega
  | succ n ih =>
    intro t A cap w hn hb hrep
    obtain ⟨tk, tn, ts, l⟩ := t
    rw [Tm.size] at hn
    rw [RepT_mk] at hrep
    obtain ⟨hr1, hr2, hr3, hr4⟩ := hrep
    simp only [Tm.val, Tm.kind, Tm.name, Tm.sort, Tm.kids, Tm.size]
    unfold maxLen at hr1 hr3
    go_enter Tryd.func13, Tryd.ntmps13
    go_wp2_with fail
    go_loopw [3, 9] (fun v i wr => ∃ k : Nat, k ≤ l.length ∧ i = .int .i64 k ∧ v = .int .i64 (1 + Tm.sizes (l.take k) : Nat) ∧ Lay w.heap.size w wr)
      (fun _ i _ => l.length - (intOf i).toNat)
    case atStart => exact ⟨0, Nat.zero_le _, rfl, rfl, (Lay.refl _ _).alloc (Nat.le_refl _) _⟩
    case round =>
      obtain ⟨k, hk, rfl, rfl, hbel⟩ := hrel
      by_cases hlt : k < l.length
      · rcases hr4 with rfl | ⟨b, off, rfl, hbB, hl⟩
        · simp at hlt
        obtain ⟨A', cap', h0, h1, h2, h3, h5⟩ := (hl.below hbel.below hbB).get k hlt
        have hsz := hbel.size
        have HT : Hid (Tm.sizes (l.take (k + 1)) = Tm.sizes (l.take k) + l[k].size) := Tm.sizes_take_succ l k hlt
        have htl := Tm.sizes_take_le l (k + 1)
        have htl2 := Tm.sizes_take_le l k
        have hsg := Tm.sizes_get l k hlt
        go_wp2_with fail
        refine (ih l[k] A' cap' _ (by omega) (by omega) (h5.go (below1 hsz _) (by simp; omega))).mono ?_
        rintro e w1 ⟨rfl, hb1⟩
        go_wp2_with fail
        go_roundw
        case rel => exact ⟨k + 1, by omega, by go_num, by rw [HT.out]; go_num, (hbel.alloc hsz _).trans (hb1.mono (by simp; omega))⟩
        case measure => simp [intOf]; omega
      · obtain rfl : k = l.length := by omega
        go_wp2_with fail
        go_ret
        exact ⟨ret_int (by simp), hbel⟩

set_option maxHeartbeats 800000 in
theorem rsize_any (n : Nat) : ∀ (t : Tm) (A : Option Addr) (cap : Nat) (w : World), t.size ≤ n → n ≤ 1000000 → RepT w w.heap.size t A cap →
    Calls Tryd.prog 14 #[t.val A cap] w fun e w' => e = .returned (.int .i64 t.size) ∧ Lay w.heap.size w w' := by
  induction n with
  | zero => intro t _ _ _ h; have := t.size_pos; omega
  | succ n ih =>
    intro t A cap w hn hb hrep
    obtain ⟨tk, tn, ts, l⟩ := t
    rw [Tm.size] at hn
    rw [RepT_mk] at hrep
    obtain ⟨hr1, hr2, hr3, hr4⟩ := hrep
    simp only [Tm.val, Tm.kind, Tm.name, Tm.sort, Tm.kids, Tm.size]
    unfold maxLen at hr1 hr3
    go_enter Tryd.func14, Tryd.ntmps14
    go_wp2_with fail
    go_loopw [3, 4] (fun v i wr => ∃ k : Nat, k ≤ l.length ∧ i = .int .i64 k ∧ v = .int .i64 (1 + Tm.sizes (l.take k) : Nat) ∧ Lay (w.heap.size + 1) (w.alloc (.cells #[.int .i64 tk, .string tn, .int .i64 ts, .slice A l.length cap] 24)) wr)
      (fun _ i _ => l.length - (intOf i).toNat)
    case atStart => exact ⟨0, Nat.zero_le _, rfl, rfl, Lay.refl _ _⟩
    case round =>
      obtain ⟨k, hk, rfl, rfl, hbel⟩ := hrel
      have hbox : wr.cell? ⟨w.heap.size, 3, none⟩ = some (.slice A l.length cap) := by rw [hbel.below.cell (by simp)]; simp
      have hsz := hbel.size
      simp only [World.size_alloc] at hsz
      have hbel' : Lay w.heap.size w wr := ((Lay.refl _ _).alloc (Nat.le_refl _) _).trans (hbel.mono (by omega))
      by_cases hlt : k < l.length
      · rcases hr4 with rfl | ⟨b, off, rfl, hbB, hl⟩
        · simp at hlt
        obtain ⟨A', cap', h0, h1, h2, h3, h5⟩ := (hl.below hbel'.below hbB).get k hlt
        have HT : Hid (Tm.sizes (l.take (k + 1)) = Tm.sizes (l.take k) + l[k].size) := Tm.sizes_take_succ l k hlt
        have htl := Tm.sizes_take_le l (k + 1)
        have htl2 := Tm.sizes_take_le l k
        have hsg := Tm.sizes_get l k hlt
        go_wp2_with fail
        refine (ih l[k] A' cap' _ (by omega) (by omega) (h5.go (Below.refl _ _) (by omega))).mono ?_
        rintro e w1 ⟨rfl, hb1⟩
        go_wp2_with fail
        go_roundw
        case rel => exact ⟨k + 1, by omega, by go_num, by rw [HT.out]; go_num, hbel.trans (hb1.mono (by omega))⟩
        case measure => simp [intOf]; omega
      · obtain rfl : k = l.length := by omega
        go_wp2_with fail
        go_ret
        exact ⟨ret_int (by simp), hbel'⟩
end Go.Proofs.YtbgkabgbgbebaaaDoor
