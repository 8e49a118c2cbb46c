/- subst.apply and subst.Apply. -/
import Derived.Test.YtipmibjhlpnhjaaGreatDoorSput
namespace Go.Proofs.YtipmibjhlpnhjaaGreatDoor
open Go.RowKit Go.Sort

theorem getS_le {s : List Bd} {m : Nat} (hs : ∀ b ∈ s, b.2.size ≤ m) {x : Tm} (hm : 0 < m) : (getS s x).size ≤ m * x.size := by
  induction s with
  | nil => rw [getS]; exact Nat.le_mul_of_pos_left _ hm
  | cons b r ih =>
    rw [getS]
    split
    · have h1 := hs b (List.mem_cons_self ..)
      have h2 := x.size_pos
      exact Nat.le_trans h1 (Nat.le_mul_of_pos_right _ h2)
    · exact ih (fun c hc => hs c (List.mem_cons_of_mem _ hc))
mutual
theorem put_size {s : List Bd} {m : Nat} (hs : ∀ b ∈ s, b.2.size ≤ m) (hm : 0 < m) : ∀ t : Tm, (t.put s).size ≤ m * t.size
  | .mk k n so l => by
    rw [Tm.put]
    split
    · exact getS_le hs hm
    · have := puts_size hs hm l
      rw [Tm.size, Tm.size, Nat.mul_add]
      omega
theorem puts_size {s : List Bd} {m : Nat} (hs : ∀ b ∈ s, b.2.size ≤ m) (hm : 0 < m) : ∀ l : List Tm, Tm.sizes (Tm.puts s l) ≤ m * Tm.sizes l
  | [] => by simp [Tm.puts, Tm.sizes]
  | t :: r => by
    have h1 := put_size hs hm t
    have h2 := puts_size hs hm r
    rw [Tm.puts, Tm.sizes, Tm.sizes, Nat.mul_add]
    omega
end
theorem valid_size {t : Tm} (h : t.valid = 0) : t.size ≤ 400 := by
  unfold Tm.valid at h
  split at h
  · rename_i h1; exact absurd h h1
  · split at h
    · omega
    · omega
theorem valid_sizes {s : List Bd} (h : validS s = 0) : ∀ b ∈ s, b.2.size ≤ 400 := fun b hb => valid_size (bindE_zero ((validS_zero h).2.1 b hb)).2.2.2.1
theorem valid_sizeB {s : List Bd} (h : validS s = 0) : SizeB s := fun b hb => by
  have h1 := bindE_zero ((validS_zero h).2.1 b hb)
  have h2 := valid_size h1.1
  have h3 := valid_size h1.2.2.2.1
  omega
/-- what an application gives -/
def Applied (r : Tm × Int) (w : World) (e : Ending) (w' : World) : Prop :=
  ∃ A c, e = .returned (.tuple #[r.1.val A c, .int .i64 r.2]) ∧ RepP w' (fun b => w.heap.size ≤ b ∧ b < w'.heap.size) r.1 A c ∧ Below w.heap.size w w'
theorem applied_err {w Y : World} {n : Int} {b : Nat} (hB : Below w.heap.size w Y) (hb : w.heap.size ≤ b) {x y z v : Value} :
    Applied (.mk 0 ⟨#[]⟩ 0 [], n) w (.returned (.tuple #[.agg #[.int .i64 0, .string ⟨#[]⟩, .int .i64 0, .slice none 0 0], .int .i64 n])) ((((Y.setCell ⟨b, 0, none⟩ x).setCell ⟨b, 1, none⟩ y).setCell ⟨b, 2, none⟩ z).setCell ⟨b, 3, none⟩ v) := by
  refine ⟨none, 0, rfl, rep_leaf _ _ _ (Nat.zero_le _), ?_⟩
  iterate 4 refine Below.setCell ?_ (by exact hb) _
  exact hB
theorem applied_ok {w Y Z : World} {t : Tm} {n : Int} {A : Option Addr} {c b : Nat} (hB : Below w.heap.size w Y) (hb : w.heap.size ≤ b) (hbz : b < Z.heap.size) (hrep : RepP Y (fun k => Z.heap.size ≤ k ∧ k < Y.heap.size) t A c) {x y z v : Value} :
    Applied (t, n) w (.returned (.tuple #[t.val A c, .int .i64 n])) ((((Y.setCell ⟨b, 0, none⟩ x).setCell ⟨b, 1, none⟩ y).setCell ⟨b, 2, none⟩ z).setCell ⟨b, 3, none⟩ v) := by
  refine ⟨A, c, rfl, ?_, ?_⟩
  · refine RepP.mono ?_ ?_ _ _ _ hrep
    · rintro k ⟨h1, h2⟩; exact ⟨by omega, by simp [World.setCell]; omega⟩
    · rintro q ⟨h1, h2⟩
      have hq : ∀ o, (⟨b, o, none⟩ : Addr) ≠ q := fun o e => by rw [← e] at h1; simp at h1; omega
      rw [World.cell?_setCell_other _ _ _ _ (hq _), World.cell?_setCell_other _ _ _ _ (hq _), World.cell?_setCell_other _ _ _ _ (hq _), World.cell?_setCell_other _ _ _ _ (hq _)]
  · iterate 4 refine Below.setCell ?_ (by exact hb) _
    exact hB

set_option maxHeartbeats 4000000 in
set_option maxRecDepth 100000 in
theorem sapply_any (s : List Bd) (S0 : Option Addr) (scap : Nat) (hvs : validS s = 0) (t : Tm) (A : Option Addr) (cap : Nat) (w : World) (hn : t.size ≤ 1000000) (hrs : RepB w (fun b => b < w.heap.size) s S0 scap) (hrep : RepT w w.heap.size t A cap) :
    Calls Tryz.prog 106 #[.slice S0 s.length scap, t.val A cap] w (Applied (applyE s t) w) := by
  have hz := validS_zero hvs
  obtain ⟨V, hV⟩ : ∃ V, V = (w.alloc (.cells #[.int .i64 t.kind, .string t.name, .int .i64 t.sort, .slice A t.kids.length cap] 24)).alloc (.cells #[.int .i64 0, .string ⟨#[]⟩, .int .i64 0, .slice none 0 0] 24) := ⟨_, rfl⟩
  have h2 : Two w t (.mk 0 ⟨#[]⟩ 0 []) A none cap 0 V := by rw [hV]; exact Two.new w t (.mk 0 ⟨#[]⟩ 0 []) A none cap 0
  have VA := valid_any t A cap V hn (hrep.go h2.lay.below h2.lay.size)
  have PU : Hid (t.size ≤ 400 → ∀ Z, Lay w.heap.size w Z → Calls Tryz.prog 142 #[.slice S0 s.length scap, t.val A cap] Z (Fresh (t.put s) Z)) := Lib.hid fun hs Z h =>
    sput_any s S0 scap (by omega) hz.2.2 (valid_sizeB hvs) 1000000 t A cap Z hn (Nat.le_refl _) (hrs.go h.below h.size) (hrep.go h.below h.size)
  have hps := put_size (valid_sizes hvs) (by omega) t
  obtain ⟨vt, hvt⟩ : ∃ v, v = t.valid := ⟨_, rfl⟩
  rw [← hvt] at VA
  have VA := Lib.hid VA
  obtain ⟨r, hr⟩ : ∃ r, r = applyE s t := ⟨_, rfl⟩
  rw [← hr]
  unfold applyE at hr
  rw [← hvt] at hr
  have HVT := Lib.hid hvt; clear hvt
  have HR := Lib.hid hr; clear hr
  have HPS := Lib.hid hps; clear hps
  have HV := Lib.hid hV; clear hV
  have H2 := Lib.hid h2; clear h2 hz
  obtain ⟨a0, a1, a2, a3, -⟩ := box_at H2.out.one
  simp only [Tm.val] at VA PU ⊢
  go_enter Tryz.func106, Tryz.ntmps106
  go_wp2_with fail
  rw [← HV.out]
  refine VA.out.mono ?_; clear VA a0 a1 a2 a3 HV
  rintro e w1 ⟨rfl, hl1⟩
  have H21 := Lib.hid (H2.out.go hl1); clear H2 hl1
  obtain ⟨a0, a1, a2, a3, -⟩ := box_at H21.out.one
  obtain ⟨b0, b1, b2, b3, bf⟩ := box_at H21.out.two
  rcases eq_facts vt 0 with ⟨h0, e0, n0⟩ | ⟨h0, e0, n0⟩
  · subst h0
    have hr := HR.out.trans (if_neg (by simp))
    have HR2 := Lib.hid hr; clear hr HR
    have hs4 := valid_size HVT.out.symm
    have PU := Lib.hid (PU.out hs4 w1 H21.out.lay)
    obtain ⟨u, hu⟩ : ∃ u, u = t.put s := ⟨_, rfl⟩
    have hus : u.size ≤ 1000000 := by have := HPS.out; rw [hu]; omega
    rw [← hu] at PU HR2
    clear hu HPS hs4
    go_wp2_with fail
    refine PU.out.mono ?_; clear PU a0 a1 a2 a3 b0 b1 b2 b3 bf
    rintro e w2 ⟨A2, c2, rfl, hrep2, hb2⟩
    have hs2 := hb2.size
    have hlt1 := H21.out.lt
    obtain ⟨X, hX⟩ : ∃ X, X = w2.alloc (.cells #[.int .i64 u.kind, .string u.name, .int .i64 u.sort, .slice A2 u.kids.length c2] 24) := ⟨_, rfl⟩
    have hbX : Below w2.heap.size w2 X := by rw [hX]; exact below1 (Nat.le_refl _) _
    have hsX : X.heap.size = w2.heap.size + 1 := by rw [hX]; simp
    have hxb : X.heap[w2.heap.size]? = some (.cells #[.int .i64 u.kind, .string u.name, .int .i64 u.sort, .slice A2 u.kids.length c2] 24 (0, 0)) := by rw [hX]; exact heap_alloc_new _ _
    have hbt := below_then hb2 hbX hs2
    have hc := (hbt.block _ hlt1).trans H21.out.two
    have hrepX : RepP X (fun k => w1.heap.size ≤ k ∧ k < w2.heap.size) u A2 c2 := RepP.mono (fun _ h => h) (fun p ⟨_, hp⟩ => hbX.cell hp) _ _ _ hrep2
    have VU := valid_any u A2 c2 X hus (RepP.mono (fun k ⟨_, h⟩ => by omega) (fun _ _ => rfl) _ _ _ hrepX)
    obtain ⟨vu, hvu⟩ : ∃ v, v = u.valid := ⟨_, rfl⟩
    rw [← hvu] at VU HR2
    clear hvu
    have VU := Lib.hid VU
    have HX := Lib.hid hX; clear hX
    have HXB := Lib.hid hxb; clear hxb
    have HC := Lib.hid hc; clear hc
    have HBX := Lib.hid (H21.out.lay.below.trans (hbt.mono (by omega)))
    have HREP := Lib.hid hrepX; clear hrepX hrep2 hb2 hbX hbt
    simp only [Tm.val] at VU ⊢
    go_wp2_with fail
    rw [← HX.out]
    refine VU.out.mono ?_; clear VU HX
    rintro e w3 ⟨rfl, hl3⟩
    have hs3 := hl3.size
    have hxb3 := (hl3.below.block _ (by omega)).trans HXB.out
    have hc3 := (hl3.below.block _ (by omega)).trans HC.out
    obtain ⟨a0, a1, a2, a3, -⟩ := box_at hxb3
    obtain ⟨b0, b1, b2, b3, bf⟩ := box_at hc3
    have HB3 := Lib.hid (HBX.out.trans (hl3.below.mono (by omega)))
    have HREP3 : Hid (RepP w3 (fun k => w1.heap.size ≤ k ∧ k < w3.heap.size) u A2 c2) := RepP.mono (fun k ⟨h1, h2⟩ => ⟨h1, by omega⟩) (fun p ⟨_, hp⟩ => hl3.below.cell (by omega)) _ _ _ HREP.out
    have hne : w2.heap.size ≠ w.heap.size + 1 := by omega
    clear hxb3 hc3 hl3 HREP HBX
    rcases eq_facts vu 0 with ⟨h1, e1, n1⟩ | ⟨h1, e1, n1⟩
    · subst h1
      have hr : r = (u, 0) := HR2.out.trans (if_neg (by simp))
      have HR3 := Lib.hid hr; clear hr HR2
      go_wp2_with fail
      refine bodyPost_ret (v := .tuple #[.agg #[.int .i64 u.kind, .string u.name, .int .i64 u.sort, .slice A2 u.kids.length c2], .int .i64 0]) ?_ rfl ?_
      · simp [results, Tryz.results106, go_sem, b0, b1, b2, b3]
      rw [HR3.out]
      exact applied_ok HB3.out (Nat.le_succ _) hlt1 HREP3.out
    · have hr : r = (.mk 0 ⟨#[]⟩ 0 [], vu) := HR2.out.trans (if_pos h1)
      have HR3 := Lib.hid hr; clear hr HR2 h1
      go_wp2_with fail
      refine bodyPost_ret (v := .tuple #[.agg #[.int .i64 0, .string ⟨#[]⟩, .int .i64 0, .slice none 0 0], .int .i64 vu]) ?_ rfl ?_
      · simp [results, Tryz.results106, go_sem, b0, b1, b2, b3]
      rw [HR3.out]
      exact applied_err HB3.out (Nat.le_succ _)
  · have hr : r = (.mk 0 ⟨#[]⟩ 0 [], vt) := HR.out.trans (if_pos h0)
    have HR3 := Lib.hid hr; clear hr HR h0
    go_wp2_with fail
    refine bodyPost_ret (v := .tuple #[.agg #[.int .i64 0, .string ⟨#[]⟩, .int .i64 0, .slice none 0 0], .int .i64 vt]) ?_ rfl ?_
    · simp [results, Tryz.results106, go_sem, b0, b1, b2, b3]
    rw [HR3.out]
    exact applied_err H21.out.lay.below (Nat.le_succ _)

set_option maxHeartbeats 4000000 in
set_option maxRecDepth 100000 in
theorem sApply_any (s : List Bd) (S0 : Option Addr) (scap : Nat) (hsz : SizeB s) (t : Tm) (A : Option Addr) (cap : Nat) (w : World) (hn : t.size ≤ 1000000) (hrs : RepB w (fun b => b < w.heap.size) s S0 scap) (hrep : RepT w w.heap.size t A cap) :
    Calls Tryz.prog 63 #[.slice S0 s.length scap, t.val A cap] w (Applied (ApplyE s t) w) := by
  obtain ⟨V, hV⟩ : ∃ V, V = (w.alloc (.cells #[.int .i64 t.kind, .string t.name, .int .i64 t.sort, .slice A t.kids.length cap] 24)).alloc (.cells #[.int .i64 0, .string ⟨#[]⟩, .int .i64 0, .slice none 0 0] 24) := ⟨_, rfl⟩
  have h2 : Two w t (.mk 0 ⟨#[]⟩ 0 []) A none cap 0 V := by rw [hV]; exact Two.new w t (.mk 0 ⟨#[]⟩ 0 []) A none cap 0
  have VA := svalid_any s S0 scap V hsz (hrs.go h2.lay.below h2.lay.size)
  have AP : Hid (validS s = 0 → ∀ Z, Lay w.heap.size w Z → Calls Tryz.prog 106 #[.slice S0 s.length scap, t.val A cap] Z (Applied (applyE s t) Z)) := Lib.hid fun hv Z h => sapply_any s S0 scap hv t A cap Z hn (hrs.go h.below h.size) (hrep.go h.below h.size)
  obtain ⟨vs, hvs⟩ : ∃ v, v = validS s := ⟨_, rfl⟩
  rw [← hvs] at VA
  have VA := Lib.hid VA
  obtain ⟨r, hr⟩ : ∃ r, r = ApplyE s t := ⟨_, rfl⟩
  rw [← hr]
  unfold ApplyE at hr
  rw [← hvs] at hr
  have HVS := Lib.hid hvs; clear hvs
  have HR := Lib.hid hr; clear hr
  have HV := Lib.hid hV; clear hV
  have H2 := Lib.hid h2; clear h2
  simp only [Tm.val] at AP ⊢
  go_enter Tryz.func63, Tryz.ntmps63
  go_wp2_with fail
  rw [← HV.out]
  refine VA.out.mono ?_; clear VA HV
  rintro e w1 ⟨rfl, hl1⟩
  have H21 := Lib.hid (H2.out.go hl1); clear H2 hl1
  obtain ⟨a0, a1, a2, a3, -⟩ := box_at H21.out.one
  obtain ⟨b0, b1, b2, b3, bf⟩ := box_at H21.out.two
  rcases eq_facts vs 0 with ⟨h0, e0, n0⟩ | ⟨h0, e0, n0⟩
  · subst h0
    have hr := HR.out.trans (if_neg (by simp))
    have AP := Lib.hid (AP.out HVS.out.symm w1 H21.out.lay)
    rw [← hr] at AP
    clear HR hr
    have hlt := H21.out.lt
    go_wp2_with fail
    refine AP.out.mono ?_; clear AP a0 a1 a2 a3 b0 b1 b2 b3 bf
    rintro e w2 ⟨A2, c2, rfl, hrep2, hb2⟩
    have hc := (hb2.block _ hlt).trans H21.out.two
    obtain ⟨b0, b1, b2, b3, bf⟩ := box_at hc
    have HB2 := Lib.hid (H21.out.lay.below.trans (hb2.mono (by omega)))
    have HREP := Lib.hid hrep2; clear hrep2 hb2 hc
    obtain ⟨u, n⟩ := r
    simp only [Tm.val]
    go_wp2_with fail
    refine bodyPost_ret (v := .tuple #[.agg #[.int .i64 u.kind, .string u.name, .int .i64 u.sort, .slice A2 u.kids.length c2], .int .i64 n]) ?_ rfl ?_
    · simp [results, Tryz.results63, go_sem, b0, b1, b2, b3]
    exact applied_ok HB2.out (Nat.le_succ _) hlt HREP.out
  · have hr : r = (.mk 0 ⟨#[]⟩ 0 [], vs) := HR.out.trans (if_pos h0)
    have HR3 := Lib.hid hr; clear hr HR h0
    go_wp2_with fail
    refine bodyPost_ret (v := .tuple #[.agg #[.int .i64 0, .string ⟨#[]⟩, .int .i64 0, .slice none 0 0], .int .i64 vs]) ?_ rfl ?_
    · simp [results, Tryz.results63, go_sem, b0, b1, b2, b3]
    rw [HR3.out]
    exact applied_err H21.out.lay.below (Nat.le_succ _)
end Go.Proofs.YtipmibjhlpnhjaaGreatDoor
