/- The reference's Apply. -/
import Derived.Test.YtkbkgiihgghbeaaDoorSrput
namespace Go.Proofs.YtkbkgiihgghbeaaDoor
open Go.RowKit Go.Sort

/-- what an application of the reference gives -/
def RApplied (B : Nat) (r : Tm × Int) (w : World) (e : Ending) (w' : World) : Prop :=
  ∃ A c, e = .returned (.tuple #[r.1.val A c, .int .i64 r.2]) ∧ RepP w' (fun b => b < B ∨ w.heap.size ≤ b ∧ b < w'.heap.size) r.1 A c ∧ Below w.heap.size w w'
theorem rapplied_err {B : Nat} {w Y : World} {n : Int} {b : Nat} (hB : Below w.heap.size w Y) (hb : w.heap.size ≤ b) {x y z v : Value} :
    RApplied B (.mk 0 ⟨#[]⟩ 0 [], n) w (.returned (.tuple #[.agg #[.int .i64 0, .string ⟨#[]⟩, .int .i64 0, .slice none 0 0], .int .i64 n])) ((((Y.setCell ⟨b, 0, none⟩ x).setCell ⟨b, 1, none⟩ y).setCell ⟨b, 2, none⟩ z).setCell ⟨b, 3, none⟩ v) := by
  refine ⟨none, 0, rfl, rep_leaf _ _ _ (Nat.zero_le _), ?_⟩
  iterate 4 refine Below.setCell ?_ (by exact hb) _
  exact hB
theorem rapplied_ok {B : Nat} {w Y Z : World} {t : Tm} {n : Int} {A : Option Addr} {c b : Nat} (hB : Below w.heap.size w Y) (hb : w.heap.size ≤ b) (hbz : b < Z.heap.size) (hBw : B ≤ w.heap.size) (hrep : RepP Y (fun k => k < B ∨ Z.heap.size ≤ k ∧ k < Y.heap.size) t A c) {x y z v : Value} :
    RApplied B (t, n) w (.returned (.tuple #[t.val A c, .int .i64 n])) ((((Y.setCell ⟨b, 0, none⟩ x).setCell ⟨b, 1, none⟩ y).setCell ⟨b, 2, none⟩ z).setCell ⟨b, 3, none⟩ v) := by
  refine ⟨A, c, rfl, ?_, ?_⟩
  · refine RepP.mono ?_ ?_ _ _ _ hrep
    · rintro k (h | ⟨h1, h2⟩)
      · exact .inl h
      · exact .inr ⟨by omega, by simpa [World.setCell] using h2⟩
    · intro q h
      have hq : ∀ o, (⟨b, o, none⟩ : Addr) ≠ q := fun o e => by rw [← e] at h; simp at h; omega
      rw [World.cell?_setCell_other _ _ _ _ (hq _), World.cell?_setCell_other _ _ _ _ (hq _), World.cell?_setCell_other _ _ _ _ (hq _), World.cell?_setCell_other _ _ _ _ (hq _)]
  · iterate 4 refine Below.setCell ?_ (by exact hb) _
    exact hB

set_option maxHeartbeats 4000000 in
set_option maxRecDepth 100000 in
theorem rApply_any (B : Nat) (s : List Bd) (S0 : Option Addr) (scap : Nat) (hsz : SizeB s) (t : Tm) (A : Option Addr) (cap : Nat) (w : World) (hn : t.size ≤ 1000000) (hB : B ≤ w.heap.size) (hrs : RepB w (fun b => b < B) s S0 scap) (hrep : RepP w (fun b => b < B) t A cap) :
    Calls Tryd.prog 28 #[.slice S0 s.length scap, t.val A cap] w (RApplied B (ApplyE s t) w) := by
  obtain ⟨V, hV⟩ : ∃ V, V = (w.alloc (.cells #[.int .i64 t.kind, .string t.name, .int .i64 t.sort, .slice A t.kids.length cap] 30)).alloc (.cells #[.int .i64 0, .string ⟨#[]⟩, .int .i64 0, .slice none 0 0] 30) := ⟨_, rfl⟩
  have h2 : Two w t (.mk 0 ⟨#[]⟩ 0 []) A none cap 0 V := by rw [hV]; exact Two.new w t (.mk 0 ⟨#[]⟩ 0 []) A none cap 0
  have up : ∀ Z, Lay w.heap.size w Z → RepB Z (fun b => b < Z.heap.size) s S0 scap := fun Z h => RepB.mono (fun b (hb : b < B) => by have := h.size; omega) (fun p (hp : p.block < B) => h.below.cell (by omega)) hrs
  have ut : ∀ Z, Lay w.heap.size w Z → RepT Z Z.heap.size t A cap := fun Z h => RepP.mono (fun b (hb : b < B) => by have := h.size; omega) (fun p (hp : p.block < B) => h.below.cell (by omega)) _ _ _ hrep
  have VS := rsvalid_any s S0 scap V hsz (up V h2.lay)
  have VA : Hid (∀ Z, Lay w.heap.size w Z → Calls Tryd.prog 42 #[t.val A cap] Z fun e w' => e = .returned (.int .i64 t.valid) ∧ Lay Z.heap.size Z w') := Lib.hid fun Z h => rvalid_any t A cap Z hn (ut Z h)
  have PU : Hid (∀ Z, Lay w.heap.size w Z → Calls Tryd.prog 52 #[.slice S0 s.length scap, t.val A cap] Z (Put B (t.put s) Z)) := Lib.hid fun Z h =>
    rput_any B s S0 scap hsz 1000000 t A cap Z hn (Nat.le_refl _) (Nat.le_trans hB h.size) (RepB.mono (fun _ h => h) (fun p (hp : p.block < B) => h.below.cell (by omega)) hrs) (RepP.mono (fun _ h => h) (fun p (hp : p.block < B) => h.below.cell (by omega)) _ _ _ hrep)
  have hps : validS s = 0 → (t.put s).size ≤ 400 * t.size := fun hv => put_size (valid_sizes hv) (by omega) t
  obtain ⟨vs, hvs⟩ : ∃ v, v = validS s := ⟨_, rfl⟩
  obtain ⟨vt, hvt⟩ : ∃ v, v = t.valid := ⟨_, rfl⟩
  rw [← hvs] at VS
  rw [← hvt] at VA
  have VS := Lib.hid VS
  obtain ⟨r, hr⟩ : ∃ r, r = ApplyE s t := ⟨_, rfl⟩
  rw [← hr]
  unfold ApplyE applyE at hr
  rw [← hvs, ← hvt] at hr
  have HVS := Lib.hid hvs; clear hvs
  have HVT := Lib.hid hvt; clear hvt
  have HR := Lib.hid hr; clear hr
  have HPS := Lib.hid hps; clear hps
  have HV := Lib.hid hV; clear hV
  have H2 := Lib.hid h2; clear h2 up ut
  obtain ⟨a0, a1, a2, a3, -⟩ := box_at H2.out.one
  simp only [Tm.val] at VA PU ⊢
  go_enter Tryd.func28, Tryd.ntmps28
  go_wp2_with fail
  rw [← HV.out]
  refine VS.out.mono ?_; clear VS a0 a1 a2 a3 HV
  rintro e w0 ⟨rfl, hl0⟩
  have H20 := Lib.hid (H2.out.go hl0); clear H2 hl0
  obtain ⟨a0, a1, a2, a3, -⟩ := box_at H20.out.one
  obtain ⟨b0, b1, b2, b3, bf⟩ := box_at H20.out.two
  rcases eq_facts vs 0 with ⟨h0, e0, n0⟩ | ⟨h0, e0, n0⟩
  rotate_left
  · have hr : r = (.mk 0 ⟨#[]⟩ 0 [], vs) := HR.out.trans (if_pos h0)
    have HR3 := Lib.hid hr; clear hr HR h0
    go_wp2_with fail
    refine bodyPost_ret (v := .tuple #[.agg #[.int .i64 0, .string ⟨#[]⟩, .int .i64 0, .slice none 0 0], .int .i64 vs]) ?_ rfl ?_
    · simp [results, Tryd.results28, go_sem, b0, b1, b2, b3]
    rw [HR3.out]
    exact rapplied_err H20.out.lay.below (Nat.le_succ _)
  subst h0
  have HR1 := Lib.hid (HR.out.trans (if_neg (by simp))); clear HR
  have VA := Lib.hid (VA.out w0 H20.out.lay)
  go_wp2_with fail
  refine VA.out.mono ?_; clear VA a0 a1 a2 a3 b0 b1 b2 b3 bf
  rintro e w1 ⟨rfl, hl1⟩
  have H21 := Lib.hid (H20.out.go hl1); clear H20 hl1
  obtain ⟨a0, a1, a2, a3, -⟩ := box_at H21.out.one
  obtain ⟨b0, b1, b2, b3, bf⟩ := box_at H21.out.two
  rcases eq_facts vt 0 with ⟨h0, e1, n1⟩ | ⟨h0, e1, n1⟩
  · subst h0
    have hr := HR1.out.trans (if_neg (by simp))
    have HR2 := Lib.hid hr; clear hr HR1
    have hs4 := valid_size HVT.out.symm
    have PU := Lib.hid (PU.out w1 H21.out.lay)
    obtain ⟨u, hu⟩ : ∃ u, u = t.put s := ⟨_, rfl⟩
    have hus : u.size ≤ 1000000 := by have := HPS.out HVS.out.symm; rw [hu]; omega
    rw [← hu] at PU HR2
    clear hu HPS hs4
    go_wp2_with fail
    refine PU.out.mono ?_; clear PU a0 a1 a2 a3 b0 b1 b2 b3 bf
    rintro e w2 ⟨A2, c2, rfl, hrep2, hb2⟩
    have hs2 := hb2.size
    have hlt1 := H21.out.lt
    have hws := H21.out.lay.size
    obtain ⟨X, hX⟩ : ∃ X, X = w2.alloc (.cells #[.int .i64 u.kind, .string u.name, .int .i64 u.sort, .slice A2 u.kids.length c2] 30) := ⟨_, rfl⟩
    have hbX : Below w2.heap.size w2 X := by rw [hX]; exact below1 (Nat.le_refl _) _
    have hsX : X.heap.size = w2.heap.size + 1 := by rw [hX]; simp
    have hxb : X.heap[w2.heap.size]? = some (.cells #[.int .i64 u.kind, .string u.name, .int .i64 u.sort, .slice A2 u.kids.length c2] 30 (0, 0)) := by rw [hX]; exact heap_alloc_new _ _
    have hbt := below_then hb2 hbX hs2
    have hc := (hbt.block _ hlt1).trans H21.out.two
    have hrepX : RepP X (fun k => k < B ∨ w1.heap.size ≤ k ∧ k < w2.heap.size) u A2 c2 := RepP.mono (fun _ h => h) (fun p hp => hbX.cell (by rcases hp with h | ⟨_, h⟩ <;> omega)) _ _ _ hrep2
    have VU := rvalid_any u A2 c2 X hus (RepP.mono (fun k h => by rcases h with h | ⟨_, h⟩ <;> omega) (fun _ _ => rfl) _ _ _ hrepX)
    obtain ⟨vu, hvu⟩ : ∃ v, v = u.valid := ⟨_, rfl⟩
    rw [← hvu] at VU HR2
    clear hvu
    have VU := Lib.hid VU
    have HX := Lib.hid hX; clear hX
    have HXB := Lib.hid hxb; clear hxb
    have HC := Lib.hid hc; clear hc
    have HBX := Lib.hid (H21.out.lay.below.trans (hbt.mono (by omega)))
    have HREP := Lib.hid hrepX; clear hrepX hrep2 hb2 hbX hbt
    simp only [Tm.val] at VU ⊢
    go_wp2_with fail
    rw [← HX.out]
    refine VU.out.mono ?_; clear VU HX
    rintro e w3 ⟨rfl, hl3⟩
    have hs3 := hl3.size
    have hxb3 := (hl3.below.block _ (by omega)).trans HXB.out
    have hc3 := (hl3.below.block _ (by omega)).trans HC.out
    obtain ⟨a0, a1, a2, a3, -⟩ := box_at hxb3
    obtain ⟨b0, b1, b2, b3, bf⟩ := box_at hc3
    have HB3 := Lib.hid (HBX.out.trans (hl3.below.mono (by omega)))
    have HREP3 : Hid (RepP w3 (fun k => k < B ∨ w1.heap.size ≤ k ∧ k < w3.heap.size) u A2 c2) := RepP.mono (fun k h => h.imp id (fun ⟨h1, h2⟩ => ⟨h1, by omega⟩)) (fun p hp => hl3.below.cell (by rcases hp with h | ⟨_, h⟩ <;> omega)) _ _ _ HREP.out
    have hne : w2.heap.size ≠ w.heap.size + 1 := by omega
    clear hxb3 hc3 hl3 HREP HBX
    rcases eq_facts vu 0 with ⟨h1, e2, n2⟩ | ⟨h1, e2, n2⟩
    · subst h1
      have hr : r = (u, 0) := HR2.out.trans (if_neg (by simp))
      have HR3 := Lib.hid hr; clear hr HR2
      go_wp2_with fail
      refine bodyPost_ret (v := .tuple #[.agg #[.int .i64 u.kind, .string u.name, .int .i64 u.sort, .slice A2 u.kids.length c2], .int .i64 0]) ?_ rfl ?_
      · simp [results, Tryd.results28, go_sem, b0, b1, b2, b3]
      rw [HR3.out]
      exact rapplied_ok HB3.out (Nat.le_succ _) hlt1 hB HREP3.out
    · have hr : r = (.mk 0 ⟨#[]⟩ 0 [], vu) := HR2.out.trans (if_pos h1)
      have HR3 := Lib.hid hr; clear hr HR2 h1
      go_wp2_with fail
      refine bodyPost_ret (v := .tuple #[.agg #[.int .i64 0, .string ⟨#[]⟩, .int .i64 0, .slice none 0 0], .int .i64 vu]) ?_ rfl ?_
      · simp [results, Tryd.results28, go_sem, b0, b1, b2, b3]
      rw [HR3.out]
      exact rapplied_err HB3.out (Nat.le_succ _)
  · have hr : r = (.mk 0 ⟨#[]⟩ 0 [], vt) := HR1.out.trans (if_pos h0)
    have HR3 := Lib.hid hr; clear hr HR1 h0
    go_wp2_with fail
    refine bodyPost_ret (v := .tuple #[.agg #[.int .i64 0, .string ⟨#[]⟩, .int .i64 0, .slice none 0 0], .int .i64 vt]) ?_ rfl ?_
    · simp [results, Tryd.results28, go_sem, b0, b1, b2, b3]
    rw [HR3.out]
    exact rapplied_err H21.out.lay.below (Nat.le_succ _)
end Go.Proofs.YtkbkgiihgghbeaaDoor
