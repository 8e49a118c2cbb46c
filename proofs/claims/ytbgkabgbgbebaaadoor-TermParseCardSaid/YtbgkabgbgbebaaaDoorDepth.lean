/- The depths of terms, in the program and in the reference; the guards of the statements. -/
import Derived.Test.YtbgkabgbgbebaaaDoorSize
namespace Go.Proofs.YtbgkabgbgbebaaaDoor
open Go.RowKit

theorem Tm.depths_take_succ : ∀ (l : List Tm) (i : Nat) (h : i < l.length), Tm.depths (l.take (i + 1)) = max (Tm.depths (l.take i)) l[i].depth
  | [], _, h => by simp at h
  | t :: r, 0, _ => by simp [Tm.depths]
  | t :: r, i + 1, h => by have := Tm.depths_take_succ r i (by simpa using h); simp [Tm.depths] at this ⊢; omega
mutual
theorem Tm.depth_le : ∀ t : Tm, t.depth ≤ t.size
  | .mk _ _ _ l => by rw [Tm.depth, Tm.size]; have := Tm.depths_le l; omega
theorem Tm.depths_le : ∀ l : List Tm, Tm.depths l ≤ Tm.sizes l
  | [] => by simp [Tm.depths]
  | t :: r => by rw [Tm.depths, Tm.sizes]; have := Tm.depth_le t; have := Tm.depths_le r; omega
end

set_option maxHeartbeats 800000 in
theorem depth_any (n : Nat) : ∀ (t : Tm) (A : Option Addr) (cap : Nat) (w : World), t.size ≤ n → n ≤ 1000000 → RepT w w.heap.size t A cap →
    Calls Tryd.prog 15 #[t.val A cap] w fun e w' => e = .returned (.int .i64 t.depth) ∧ Lay w.heap.size w w' := by
  induction n with
  | zero => intro t _ _ _ h; have := t.size_pos; omega
  | succ n ih =>
    intro t A cap w hn hb hrep
    obtain ⟨tk, tn, ts, l⟩ := t
    rw [Tm.size] at hn
    rw [RepT_mk] at hrep
    obtain ⟨hr1, hr2, hr3, hr4⟩ := hrep
    simp only [Tm.val, Tm.kind, Tm.name, Tm.sort, Tm.kids, Tm.depth]
    unfold maxLen at hr1 hr3
    have hdl := Tm.depths_le l
    go_enter Tryd.func15, Tryd.ntmps15
    go_wp2_with fail
    go_loopw [3, 9] (fun v i wr => ∃ k : Nat, k ≤ l.length ∧ i = .int .i64 k ∧ v = .int .i64 (Tm.depths (l.take k) : Nat) ∧ Lay w.heap.size w wr)
      (fun _ i _ => l.length - (intOf i).toNat)
    case atStart => exact ⟨0, Nat.zero_le _, rfl, rfl, (Lay.refl _ _).alloc (Nat.le_refl _) _⟩
    case round =>
      obtain ⟨k, hk, rfl, rfl, hbel⟩ := hrel
      by_cases hlt : k < l.length
      · rcases hr4 with rfl | ⟨b, off, rfl, hbB, hl⟩
        · simp at hlt
        obtain ⟨A', cap', h0, h1, h2, h3, h5⟩ := (hl.below hbel.below hbB).get k hlt
        have hsz := hbel.size
        have HT : Hid (Tm.depths (l.take (k + 1)) = max (Tm.depths (l.take k)) l[k].depth) := Tm.depths_take_succ l k hlt
        have hsg := Tm.sizes_get l k hlt
        go_wp2_with fail
        refine (ih l[k] A' cap' _ (by omega) (by omega) (h5.go (below1 hsz _) (by simp; omega))).mono ?_
        rintro e w1 ⟨rfl, hb1⟩
        go_wp2_with fail
        all_goals
          go_roundw
          case rel => exact ⟨k + 1, by omega, by go_num, by rw [HT.out]; go_num, (hbel.alloc hsz _).trans (hb1.mono (by simp; omega))⟩
          case measure => simp [intOf]; omega
      · obtain rfl : k = l.length := by omega
        simp only [List.take_length] at *
        go_wp2_with fail
        go_ret
        exact ⟨ret_int (by simp), hbel⟩

set_option maxHeartbeats 800000 in
theorem rdepth_any (n : Nat) : ∀ (t : Tm) (A : Option Addr) (cap : Nat) (w : World), t.size ≤ n → n ≤ 1000000 → RepT w w.heap.size t A cap →
    Calls Tryd.prog 16 #[t.val A cap] w fun e w' => e = .returned (.int .i64 t.depth) ∧ Lay w.heap.size w w' := by
  induction n with
  | zero => intro t _ _ _ h; have := t.size_pos; omega
  | succ n ih =>
    intro t A cap w hn hb hrep
    obtain ⟨tk, tn, ts, l⟩ := t
    rw [Tm.size] at hn
    rw [RepT_mk] at hrep
    obtain ⟨hr1, hr2, hr3, hr4⟩ := hrep
    simp only [Tm.val, Tm.kind, Tm.name, Tm.sort, Tm.kids, Tm.depth]
    unfold maxLen at hr1 hr3
    have hdl := Tm.depths_le l
    go_enter Tryd.func16, Tryd.ntmps16
    go_wp2_with fail
    go_loopw [3, 4] (fun v i wr => ∃ k : Nat, k ≤ l.length ∧ i = .int .i64 k ∧ v = .int .i64 (Tm.depths (l.take k) : Nat) ∧ Lay (w.heap.size + 1) (w.alloc (.cells #[.int .i64 tk, .string tn, .int .i64 ts, .slice A l.length cap] 24)) wr)
      (fun _ i _ => l.length - (intOf i).toNat)
    case atStart => exact ⟨0, Nat.zero_le _, rfl, rfl, Lay.refl _ _⟩
    case round =>
      obtain ⟨k, hk, rfl, rfl, hbel⟩ := hrel
      have hbox : wr.cell? ⟨w.heap.size, 3, none⟩ = some (.slice A l.length cap) := by rw [hbel.below.cell (by simp)]; simp
      have hsz := hbel.size
      simp only [World.size_alloc] at hsz
      have hbel' : Lay w.heap.size w wr := ((Lay.refl _ _).alloc (Nat.le_refl _) _).trans (hbel.mono (by omega))
      by_cases hlt : k < l.length
      · rcases hr4 with rfl | ⟨b, off, rfl, hbB, hl⟩
        · simp at hlt
        obtain ⟨A', cap', h0, h1, h2, h3, h5⟩ := (hl.below hbel'.below hbB).get k hlt
        have HT : Hid (Tm.depths (l.take (k + 1)) = max (Tm.depths (l.take k)) l[k].depth) := Tm.depths_take_succ l k hlt
        have hsg := Tm.sizes_get l k hlt
        go_wp2_with fail
        refine (ih l[k] A' cap' _ (by omega) (by omega) (h5.go (Below.refl _ _) (by omega))).mono ?_
        rintro e w1 ⟨rfl, hb1⟩
        go_wp2_with fail
        all_goals
          go_roundw
          case rel => exact ⟨k + 1, by omega, by go_num, by rw [HT.out]; go_num, hbel.trans (hb1.mono (by omega))⟩
          case measure => simp [intOf]; omega
      · obtain rfl : k = l.length := by omega
        simp only [List.take_length] at *
        go_wp2_with fail
        go_ret
        exact ⟨ret_int (by simp; try omega), hbel'⟩

/- The guards: how much of a budget of nodes is left behind a term, or -1. -/
mutual
def Tm.left : Tm → Int → Int
  | .mk _ n _ l, m => if m ≤ 0 ∨ 40 < n.size then -1 else Tm.lefts l (m - 1)
def Tm.lefts : List Tm → Int → Int
  | [], m => m
  | t :: r, m => if Tm.left t m < 0 then -1 else Tm.lefts r (Tm.left t m)
end
mutual
theorem Tm.left_le : ∀ (t : Tm) (m : Int), -1 ≤ t.left m ∧ (0 ≤ m → t.left m ≤ m)
  | .mk _ n _ l, m => by
    rw [Tm.left]; split
    · exact ⟨by omega, by omega⟩
    · have := Tm.lefts_le l (m - 1) (by omega); exact ⟨by omega, by omega⟩
theorem Tm.lefts_le : ∀ (l : List Tm) (m : Int), 0 ≤ m → -1 ≤ Tm.lefts l m ∧ Tm.lefts l m ≤ m
  | [], m, h => by rw [Tm.lefts]; omega
  | t :: r, m, h => by
    rw [Tm.lefts]; have h1 := Tm.left_le t m; split
    · omega
    · have := Tm.lefts_le r (t.left m) (by omega); omega
end
set_option maxHeartbeats 1600000 in
theorem budget_any (n : Nat) : ∀ (t : Tm) (A : Option Addr) (cap : Nat) (m : Int) (w : World), t.size ≤ n → 0 ≤ m → m ≤ 1000000 → RepT w w.heap.size t A cap →
    Calls Tryd.prog 47 #[t.val A cap, .int .i64 m] w fun e w' => e = .returned (.int .i64 (t.left m)) ∧ Lay w.heap.size w w' := by
  induction n with
  | zero => intro t _ _ _ _ h; have := t.size_pos; omega
  | succ n ih =>
    intro t A cap m w hn hm0 hm1 hrep
    obtain ⟨tk, tn, ts, l⟩ := t
    rw [Tm.size] at hn
    rw [RepT_mk] at hrep
    obtain ⟨hr1, hr2, hr3, hr4⟩ := hrep
    simp only [Tm.val, Tm.kind, Tm.name, Tm.sort, Tm.kids]
    unfold maxLen at hr1 hr3
    rw [Tm.left]
    by_cases hg : m ≤ 0
    · rw [if_pos (Or.inl hg)]
      go_enter Tryd.func47, Tryd.ntmps47
      go_wp2_with fail
      go_ret
      exact ⟨rfl, (Lay.refl _ _).alloc (Nat.le_refl _) _⟩
    · by_cases hg2 : 40 < tn.size
      · rw [if_pos (Or.inr hg2)]
        go_enter Tryd.func47, Tryd.ntmps47
        go_wp2_with fail
        go_ret
        exact ⟨rfl, (Lay.refl _ _).alloc (Nat.le_refl _) _⟩
      · rw [if_neg (by omega)]
        go_enter Tryd.func47, Tryd.ntmps47
        go_wp2_with fail
        go_loopw [1, 4, 5] (fun v _ i wr => ∃ (k : Nat) (j : Int), k ≤ l.length ∧ i = .int .i64 k ∧ v = .int .i64 j ∧ 0 ≤ j ∧ j ≤ m ∧ Hid (Tm.lefts (l.drop k) j = Tm.lefts l (m - 1)) ∧ Lay (w.heap.size + 1) (w.alloc (.cells #[.int .i64 tk, .string tn, .int .i64 ts, .slice A l.length cap] 24)) wr)
          (fun _ _ i _ => l.length - (intOf i).toNat)
        case atStart => exact ⟨0, m - 1, Nat.zero_le _, rfl, rfl, by omega, by omega, rfl, Lay.refl _ _⟩
        case round =>
          obtain ⟨k, j, hk, rfl, rfl, hj0, hj1, HL, hbel⟩ := hrel
          have hbox : wr.cell? ⟨w.heap.size, 3, none⟩ = some (.slice A l.length cap) := by rw [hbel.below.cell (by simp)]; simp
          have hsz := hbel.size
          simp only [World.size_alloc] at hsz
          have hbel' : Lay w.heap.size w wr := ((Lay.refl _ _).alloc (Nat.le_refl _) _).trans (hbel.mono (by omega))
          by_cases hlt : k < l.length
          · rcases hr4 with rfl | ⟨b, off, rfl, hbB, hl⟩
            · simp at hlt
            obtain ⟨A', cap', h0, h1, h2, h3, h5⟩ := (hl.below hbel'.below hbB).get k hlt
            have hsg := Tm.sizes_get l k hlt
            have HD : Hid (l.drop k = l[k] :: l.drop (k + 1)) := List.drop_eq_getElem_cons hlt
            have hll := Tm.left_le l[k] j
            have HU : Hid (Tm.lefts l (m - 1) = if l[k].left j < 0 then -1 else Tm.lefts (l.drop (k + 1)) (l[k].left j)) := by
              rw [← HL.out, HD.out, Tm.lefts]; exact rfl
            by_cases hneg : l[k].left j < 0
            · go_wp2_with fail
              refine (ih l[k] A' cap' j _ (by omega) hj0 (by omega) (h5.go (Below.refl _ _) (by omega))).mono ?_
              rintro e w1 ⟨rfl, hb1⟩
              go_wp2_with fail
              go_ret
              exact ⟨ret_int (by rw [HU.out, if_pos (by omega)]), hbel'.trans (hb1.mono (by omega))⟩
            · go_wp2_with fail
              refine (ih l[k] A' cap' j _ (by omega) hj0 (by omega) (h5.go (Below.refl _ _) (by omega))).mono ?_
              rintro e w1 ⟨rfl, hb1⟩
              go_wp2_with fail
              go_roundw
              case rel => exact ⟨k + 1, _, by omega, by go_num, rfl, by omega, by omega, by rw [HU.out, if_neg (by omega)]; exact rfl, hbel.trans (hb1.mono (by omega))⟩
              case measure => simp [intOf]; omega
          · obtain rfl : k = l.length := by omega
            go_wp2_with fail
            go_ret
            exact ⟨ret_int (by rw [← HL.out]; simp [Tm.lefts]), hbel'⟩
end Go.Proofs.YtbgkabgbgbebaaaDoor
