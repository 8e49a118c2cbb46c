/- The reference's Grown. -/
import Derived.Test.YtkbkgiihgghbeaaDoorSnode
namespace Go.Proofs.YtkbkgiihgghbeaaDoor
open Go.RowKit Go.Sort

theorem RepU.go {w w' : World} {B B' : Nat} {l : List Nat} {A : Option Addr} {cap : Nat} (h : RepU w (fun b => b < B) l A cap) (hb : Below B w w') (hB : B ≤ B') : RepU w' (fun b => b < B') l A cap := by
  obtain ⟨h1, h2, h3, h4⟩ := h
  refine ⟨h1, h2, h3, ?_⟩
  rcases h4 with h4 | ⟨b, off, e, hb', hc⟩
  · exact .inl h4
  · exact .inr ⟨b, off, e, Nat.lt_of_lt_of_le hb' hB, fun i hi => by rw [hb.cell (by exact hb')]; exact hc i hi⟩
theorem node_any (bs : List Nat) (A : Option Addr) (cap : Nat) (f : Nat) : ∀ (a : Nat) (v u : Int) (w : World), v = a → u = ((5 - f : Nat) : Int) → f ≤ 4 → a + 2 ^ (f + 1) ≤ 1000000 → RepU w (fun b => b < w.heap.size) bs A cap →
    Calls Tryd.prog 51 #[.slice A bs.length cap, .int .i64 v, .int .i64 u] w (Grew bs f a w) := by
  induction f with
  | zero =>
    intro a v u w hv hu _ ha hrep
    subst hv
    subst hu
    refine (node_zero bs A cap a w (by omega) hrep).mono ?_
    rintro e w' ⟨A', c', rfl, hr, hb⟩
    exact ⟨A', c', by rw [growE]; push_cast; rfl, hr, hb⟩
  | succ f ih =>
    intro a v u w hv hu hf ha hrep
    subst hv
    have hd : u = ((4 - f : Nat) : Int) := by omega
    subst hd
    have e : 2 ^ (f + 1 + 1) = 2 ^ (f + 1) + 2 ^ (f + 1) := by rw [Nat.pow_succ 2 (f + 1)]; omega
    have hp : 1 ≤ 2 ^ (f + 1) := Nat.one_le_two_pow
    refine (node_one bs A cap f a (4 - f) w (by omega) (by omega) (by omega) hrep (fun a' v' u' W hv' hu' ha' hW => ?_)).mono ?_
    · exact ih a' v' u' W hv' (by rw [hu']; omega) (by omega) (by omega) (hrep.go hW hW.size)
    · rintro e w' ⟨A', c', rfl, hr, hb⟩
      exact ⟨A', c', rfl, hr, hb⟩

def atomA : Tm := .mk 2 ⟨#[97]⟩ 0 []
def growN (bs : List Nat) : Tm := if bs.length = 0 then atomA else (growE bs 4 0).1
theorem growN_size (bs : List Nat) : (growN bs).size ≤ 31 := by
  unfold growN
  split
  · simp [atomA, Tm.size, Tm.sizes]
  · exact grow_size bs 4 0

set_option maxHeartbeats 1000000 in
set_option maxRecDepth 100000 in
theorem grown_any (bs : List Nat) (A : Option Addr) (cap : Nat) (w : World) (hrep : RepU w (fun b => b < w.heap.size) bs A cap) :
    Calls Tryd.prog 21 #[.slice A bs.length cap] w fun e w' => ∃ A' c', e = .returned ((growN bs).val A' c') ∧ RepP w' (fun b => w.heap.size ≤ b ∧ b < w'.heap.size) (growN bs) A' c' ∧ Below w.heap.size w w' := by
  have mixed : Tryd.prog.follows .mixedOrders = true := by kernel_rfl
  have h1 := hrep.1
  have h2 := hrep.2.1
  unfold maxLen at h2
  obtain ⟨V, hV⟩ : ∃ V, V = w.alloc (.cells #[.int .i64 0, .string ⟨#[]⟩, .int .i64 0, .slice none 0 0] 30) := ⟨_, rfl⟩
  have hbV : Below w.heap.size w V := by rw [hV]; exact below1 (Nat.le_refl _) _
  have hsV : V.heap.size = w.heap.size + 1 := by rw [hV]; simp
  have hzV : V.heap[w.heap.size]? = some (.cells #[.int .i64 0, .string ⟨#[]⟩, .int .i64 0, .slice none 0 0] 30 (0, 0)) := by rw [hV]; exact heap_alloc_new _ _
  have ND := node_any bs A cap 4 0 0 1 V rfl rfl (Nat.le_refl _) (by decide) (hrep.go hbV hbV.size)
  unfold Grew at ND
  have hG : bs.length ≠ 0 → growN bs = (growE bs 4 0).1 := fun h => if_neg h
  have hG0 : bs.length = 0 → growN bs = atomA := fun h => if_pos h
  generalize growN bs = u at *
  generalize growE bs 4 0 = g at *
  obtain ⟨t, n⟩ := g
  have HG := Lib.hid hG; clear hG
  have HG0 := Lib.hid hG0; clear hG0
  have ND := Lib.hid ND
  have HZV := Lib.hid hzV; clear hzV
  have HBV := Lib.hid hbV; clear hbV
  have HV := Lib.hid hV; clear hV hrep
  dsimp only at ND HG
  go_enter Tryd.func21, Tryd.ntmps21
  go_wp2_with fail
  rw [← HV.out]
  refine ND.out.mono ?_; clear ND HV
  rintro e w1 ⟨A1, c1, rfl, hr1, hb1⟩
  have hs1 : w.heap.size + 1 ≤ w1.heap.size := by have := hb1.size; omega
  obtain ⟨X, hX⟩ : ∃ X, X = w1.alloc (boxOf t A1 c1) := ⟨_, rfl⟩
  have hbX : Below w1.heap.size w1 X := by rw [hX]; exact below1 (Nat.le_refl _) _
  have hsX : X.heap.size = w1.heap.size + 1 := by rw [hX]; simp
  have hbVX := below_then hb1 hbX hb1.size
  have hzX := (hbVX.block w.heap.size (by omega)).trans HZV.out
  have hxX : X.heap[w1.heap.size]? = some (boxOf t A1 c1) := by rw [hX]; exact heap_alloc_new _ _
  have hrX : RepP X (fun b => w.heap.size + 1 ≤ b ∧ b < X.heap.size) t A1 c1 := RepP.mono (fun b ⟨g1, g2⟩ => ⟨by omega, by omega⟩) (fun p ⟨_, g2⟩ => hbX.cell g2) _ _ _ hr1
  have HBX := Lib.hid (below_then HBV.out hbVX HBV.out.size)
  have HRX := Lib.hid hrX; clear hrX hr1 hb1 hbX hbVX
  have hX2 := hX
  simp only [boxOf] at hX2 hxX
  have HX := Lib.hid hX2; clear hX2 hX
  have HZX := Lib.hid hzX; clear hzX
  have HXX := Lib.hid hxX; clear hxX
  simp only [Tm.val]
  by_cases h0 : bs.length = 0
  · have hu := HG0.out h0
    subst hu
    have hb0 : ((bs.length : Int) == 0) = true := by simp [h0]
    clear HG HG0 HRX HXX
    have HH := Lib.hid h0; clear h0
    go_wp2_with fail
    rw [← HX.out]
    refine (atom_any ⟨#[97]⟩ 0 X).mono ?_; clear HX
    rintro e w2 ⟨rfl, hl2⟩
    have hs2 := hl2.size
    obtain ⟨b0, b1, b2, b3, bf⟩ := box_at ((hl2.below.block _ (by omega)).trans HZX.out)
    have HB2 := Lib.hid (below_then HBX.out hl2.below HBX.out.size)
    clear hl2
    dsimp only [Tm.val, Tm.kind, Tm.name, Tm.sort, Tm.kids, List.length_nil]
    go_wp2_with fail
    refine bodyPost_ret (v := .agg #[.int .i64 2, .string ⟨#[97]⟩, .int .i64 0, .slice none 0 0]) ?_ rfl ?_
    · simp [results, Tryd.results21, go_sem, b0, b1, b2, b3]
    refine ⟨none, 0, rfl, rep_leaf _ _ _ (by decide), ?_⟩
    iterate 4 refine Below.setCell ?_ (by exact Nat.le_refl _) _
    exact HB2.out
  · have hu := HG.out h0
    subst hu
    have hb0 : ((bs.length : Int) == 0) = false := by rw [beq_eq_false_iff_ne]; omega
    clear HG HG0
    have HH := Lib.hid h0; clear h0
    obtain ⟨x0, x1, x2, x3, -⟩ := box_at HXX.out
    obtain ⟨b0, b1, b2, b3, bf⟩ := box_at HZX.out
    rw [HX.out] at x0 x1 x2 x3 b0 b1 b2 b3
    have bf2 : ∀ o, (w1.alloc (Obj.cells #[.int .i64 u.kind, .string u.name, .int .i64 u.sort, .slice A1 u.kids.length c1] 30)).frozen? ⟨w.heap.size, o, none⟩ = false := fun o => by rw [← HX.out]; exact bf o
    have hne : w1.heap.size ≠ w.heap.size := by omega
    go_wp2_with fail
    rw [← HX.out]
    rw [← HX.out] at b0 b1 b2 b3
    refine bodyPost_ret (v := .agg #[.int .i64 u.kind, .string u.name, .int .i64 u.sort, .slice A1 u.kids.length c1]) ?_ rfl ?_
    · simp [results, Tryd.results21, go_sem, b0, b1, b2, b3]
    refine ⟨A1, c1, rfl, fresh_set4 HRX.out, ?_⟩
    iterate 4 refine Below.setCell ?_ (by exact Nat.le_refl _) _
    exact HBX.out

set_option maxHeartbeats 400000 in
set_option maxRecDepth 100000 in
theorem few_draft (nx ny nz : Nat) (X Y Z : Option Addr) (cx cy cz : Nat) (n : Int) (w : World) :
    Calls Tryd.prog 19 #[.agg #[.slice X nx cx, .slice Y ny cy, .slice Z nz cz, .int .u8 n]] w fun e w' => ∃ q, e = .returned (.bool q) ∧ Lay w.heap.size w w' := by
  go_enter Tryd.func19, Tryd.ntmps19
  go_wp2_with fail
  all_goals (go_ret; first | exact ⟨.inl rfl, (Lay.refl _ _).alloc (Nat.le_refl _) _⟩ | exact ⟨.inr rfl, (Lay.refl _ _).alloc (Nat.le_refl _) _⟩ | exact ⟨_, rfl, (Lay.refl _ _).alloc (Nat.le_refl _) _⟩)
end Go.Proofs.YtkbkgiihgghbeaaDoor
