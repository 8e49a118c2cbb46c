/- subst.Valid and the reference's Valid, on slices of bindings. -/
import Derived.Shelf.SlSortCmp.QuietGrown
import Derived.Test.YtipmibjhlpnhjaaGreatDoorSbind
import Derived.Test.YtipmibjhlpnhjaaGreatDoorGh
namespace Go.Proofs.YtipmibjhlpnhjaaGreatDoor
open Go.RowKit Go.Sort

/-- A slice of bindings. -/
def RepB (w : World) (P : Nat → Prop) (l : List Bd) (A : Option Addr) (cap : Nat) : Prop :=
  l.length ≤ cap ∧ cap ≤ maxLen ∧ (l = [] ∨ ∃ b off, A = some ⟨b, off, none⟩ ∧ P b ∧ RepLP w P (flat l) b off)
theorem RepB.mono {w w' : World} {P P' : Nat → Prop} (hP : ∀ b, P b → P' b) (hc : ∀ p : Addr, P p.block → w'.cell? p = w.cell? p) {l : List Bd} {A : Option Addr} {cap : Nat} (h : RepB w P l A cap) : RepB w' P' l A cap := by
  obtain ⟨h1, h2, h3⟩ := h
  refine ⟨h1, h2, ?_⟩
  rcases h3 with h3 | ⟨b, off, hA, hb, hl⟩
  · exact Or.inl h3
  · exact Or.inr ⟨b, off, hA, hP b hb, RepLP.mono hP hc _ b off hb hl⟩
theorem RepB.go {w w' : World} {B B' : Nat} {l : List Bd} {A : Option Addr} {cap : Nat} (h : RepB w (fun b => b < B) l A cap) (hb : Below B w w') (hB : B ≤ B') : RepB w' (fun b => b < B') l A cap :=
  h.mono (fun _ h => Nat.lt_of_lt_of_le h hB) (fun _ hp => hb.cell hp)
/-- the cells of the i-th binding -/
structure At8 (w : World) (P : Nat → Prop) (b o : Nat) (x : Bd) (A : Option Addr) (c : Nat) (A' : Option Addr) (c' : Nat) : Prop where
  c0 : w.cell? ⟨b, o, none⟩ = some (.int .i64 x.1.kind)
  c1 : w.cell? ⟨b, o + 1, none⟩ = some (.string x.1.name)
  c2 : w.cell? ⟨b, o + 2, none⟩ = some (.int .i64 x.1.sort)
  c3 : w.cell? ⟨b, o + 3, none⟩ = some (.slice A x.1.kids.length c)
  c4 : w.cell? ⟨b, o + 4, none⟩ = some (.int .i64 x.2.kind)
  c5 : w.cell? ⟨b, o + 5, none⟩ = some (.string x.2.name)
  c6 : w.cell? ⟨b, o + 6, none⟩ = some (.int .i64 x.2.sort)
  c7 : w.cell? ⟨b, o + 7, none⟩ = some (.slice A' x.2.kids.length c')
  r1 : RepP w P x.1 A c
  r2 : RepP w P x.2 A' c'
theorem RepLP.get8 {w : World} {P : Nat → Prop} {l : List Bd} {b off : Nat} (h : RepLP w P (flat l) b off) (i : Nat) (hi : i < l.length) : ∃ A c A' c', At8 w P b (off + i * 8) l[i] A c A' c' := by
  obtain ⟨f1, f2⟩ := flat_get l i hi
  have hl := flat_length l
  obtain ⟨A, c, a0, a1, a2, a3, a4⟩ := h.get (2 * i) (by omega)
  obtain ⟨A', c', b0, b1, b2, b3, b4⟩ := h.get (2 * i + 1) (by omega)
  have e1 : (flat l)[2 * i]'(by omega) = l[i].1 := by rw [List.getElem?_eq_getElem (by omega)] at f1; exact Option.some.inj f1
  have e2 : (flat l)[2 * i + 1]'(by omega) = l[i].2 := by rw [List.getElem?_eq_getElem (by omega)] at f2; exact Option.some.inj f2
  rw [e1] at a0 a1 a2 a3 a4
  rw [e2] at b0 b1 b2 b3 b4
  have o1 : off + 2 * i * 4 = off + i * 8 := by omega
  have o2 : off + (2 * i + 1) * 4 = off + i * 8 + 4 := by omega
  rw [o1] at a0 a1 a2 a3
  rw [o2] at b0 b1 b2 b3
  exact ⟨A, c, A', c', a0, a1, a2, a3, b0, b1, b2, b3, a4, b4⟩
/-- small bindings -/
def SizeB (l : List Bd) : Prop := ∀ b ∈ l, b.1.size ≤ 1000000 ∧ b.2.size ≤ 1000000

theorem bindE_1 {b : Bd} (h : b.1.valid ≠ 0) : bindE b = b.1.valid := if_pos h
theorem bindE_2 {b : Bd} (h : b.1.valid = 0) (h1 : b.1.kind ≠ 1 ∨ b.1 = b.2) : bindE b = 1 := (if_neg (by simpa using h)).trans (if_pos h1)
theorem bindE_3 {b : Bd} (h : b.1.valid = 0) (h1 : b.1.kind = 1) (h2 : b.1 ≠ b.2) (h3 : b.2.valid ≠ 0) : bindE b = b.2.valid := (if_neg (by simpa using h)).trans ((if_neg (by rintro (h | h); exact h h1; exact h2 h)).trans (if_pos h3))
theorem bindE_4 {b : Bd} (h : b.1.valid = 0) (h1 : b.1.kind = 1) (h2 : b.1 ≠ b.2) (h3 : b.2.valid = 0) : bindE b = if fits b.1 b.2 = false then 10 else 0 := (if_neg (by simpa using h)).trans ((if_neg (by rintro (h | h); exact h h1; exact h2 h)).trans (if_neg (by simpa using h3)))

set_option maxHeartbeats 1200000 in
set_option maxRecDepth 100000 in
theorem svalid_any (l : List Bd) (A0 : Option Addr) (cap0 : Nat) (w : World) (hsz : SizeB l) (hrep : RepB w (fun b => b < w.heap.size) l A0 cap0) :
    Calls Tryz.prog 65 #[.slice A0 l.length cap0] w fun e w' => e = .returned (.int .i64 (validS l)) ∧ Lay w.heap.size w w' := by
  have mixed : Tryz.prog.follows .mixedOrders = true := by kernel_rfl
  obtain ⟨r, hr⟩ : ∃ r, r = validS l := ⟨_, rfl⟩
  rw [← hr]
  unfold validS at hr
  obtain ⟨h1, h2, h3⟩ := hrep
  unfold maxLen at h2
  by_cases hlen : 200 < l.length
  · rw [if_pos hlen] at hr
    subst hr
    go_enter Tryz.func65, Tryz.ntmps65
    go_wp2_with fail
    go_ret
    exact ⟨rfl, Lay.refl _ _⟩
  rw [if_neg hlen] at hr
  have HSZ := Lib.hid hsz; clear hsz
  have HR0 : Hid (r = bindsAt l 0) := hr; clear hr
  go_enter Tryz.func65, Tryz.ntmps65
  go_wp2_with fail
  go_loopw [12] (fun i wr => ∃ k : Nat, k ≤ l.length ∧ i = .int .i64 k ∧ Hid (r = bindsAt l k) ∧ Hid (Lay w.heap.size w wr)) (fun i _ => l.length - (intOf i).toNat)
  case atStart => exact ⟨0, Nat.zero_le _, rfl, HR0, Lay.refl _ _⟩
  case round =>
    obtain ⟨k, hk, rfl, HR, HL⟩ := hrel
    have i1 : (0 : Int) ≤ (k : Int) := Int.natCast_nonneg _
    by_cases hlt : k < l.length
    · have i2 : (k : Int) < (l.length : Int) := by omega
      rcases h3 with rfl | ⟨kb, off, rfl, hbB, hl⟩
      · simp at hlt
      have hlr : RepLP wr (fun b => b < w.heap.size) (flat l) kb off := RepLP.mono (fun _ h => h) (fun p hp => HL.out.below.cell hp) _ _ _ hbB hl
      obtain ⟨A, c, A', c', h8⟩ := hlr.get8 k hlt
      obtain ⟨hx, ht⟩ := HSZ.out l[k] (List.getElem_mem hlt)
      obtain ⟨V, hV⟩ : ∃ V, V = wr.alloc (.cells #[.int .i64 l[k].1.kind, .string l[k].1.name, .int .i64 l[k].1.sort, .slice A l[k].1.kids.length c, .int .i64 l[k].2.kind, .string l[k].2.name, .int .i64 l[k].2.sort, .slice A' l[k].2.kids.length c'] 53) := ⟨_, rfl⟩
      have hB : Bx wr l[k] A c A' c' V := by rw [hV]; exact Bx.new wr l[k] A c A' c'
      have hrx : RepT wr wr.heap.size l[k].1 A c := RepP.mono (fun b (h : b < w.heap.size) => Nat.lt_of_lt_of_le h HL.out.size) (fun _ _ => rfl) _ _ _ h8.r1
      have hrt : RepT wr wr.heap.size l[k].2 A' c' := RepP.mono (fun b (h : b < w.heap.size) => Nat.lt_of_lt_of_le h HL.out.size) (fun _ _ => rfl) _ _ _ h8.r2
      have VX : Hid (∀ Z, Lay wr.heap.size wr Z → Calls Tryz.prog 53 #[l[k].1.val A c] Z fun e w' => e = .returned (.int .i64 l[k].1.valid) ∧ Lay Z.heap.size Z w') := Lib.hid fun Z h => valid_any l[k].1 A c Z hx (hrx.go h.below h.size)
      have VT : Hid (∀ Z, Lay wr.heap.size wr Z → Calls Tryz.prog 53 #[l[k].2.val A' c'] Z fun e w' => e = .returned (.int .i64 l[k].2.valid) ∧ Lay Z.heap.size Z w') := Lib.hid fun Z h => valid_any l[k].2 A' c' Z ht (hrt.go h.below h.size)
      have CM : Hid (∀ Z, Lay wr.heap.size wr Z → Calls Tryz.prog 100 #[l[k].1.val A c, l[k].2.val A' c'] Z fun e w' => e = .returned (.int .i64 (l[k].1.cmp l[k].2)) ∧ Lay Z.heap.size Z w') := Lib.hid fun Z h => compare_any 1000000 l[k].1 l[k].2 A A' c c' Z hx (by omega) ht (hrx.go h.below h.size) (hrt.go h.below h.size)
      have FT : Hid (∀ Z, Lay wr.heap.size wr Z → Calls Tryz.prog 97 #[l[k].1.val A c, l[k].2.val A' c'] Z fun e w' => e = .returned (.bool (fits l[k].1 l[k].2)) ∧ Lay Z.heap.size Z w') := Lib.hid fun Z h => fits_any l[k].1 l[k].2 A A' c c' Z hx ht (hrx.go h.below h.size) (hrt.go h.below h.size)
      have hst := bindsAt_step l k hlt
      rw [← HR.out] at hst
      have HRX := Lib.hid hrx; clear hrx hrt
      have HLR := Lib.hid hlr; clear hlr hl
      obtain ⟨a0, a1, a2, a3, b0, b1, b2, b3, -, -⟩ := h8
      obtain ⟨vx, hvx⟩ : ∃ v, v = l[k].1.valid := ⟨_, rfl⟩
      obtain ⟨vt, hvt⟩ : ∃ v, v = l[k].2.valid := ⟨_, rfl⟩
      obtain ⟨ft, hft⟩ : ∃ v, v = fits l[k].1 l[k].2 := ⟨_, rfl⟩
      obtain ⟨cm, hcm⟩ : ∃ v, v = l[k].1.cmp l[k].2 := ⟨_, rfl⟩
      have hcmi : cm = 0 ↔ l[k].1 = l[k].2 := by rw [hcm]; exact Tm.cmp_zero
      rw [← hvx] at VX
      rw [← hvt] at VT
      rw [← hft] at FT
      rw [← hcm] at CM
      have HVX := Lib.hid hvx; clear hvx
      have HVT := Lib.hid hvt; clear hvt
      have HFT := Lib.hid hft; clear hft
      have HCM := Lib.hid hcmi; clear hcm hcmi
      have HST := Lib.hid hst; clear hst
      have HV := Lib.hid hV; clear hV
      have HB := Lib.hid hB; clear hB
      have CON := Lib.hid (VX.out V HB.out.lay); clear VX
      simp only [Tm.val] at CON VT CM FT
      go_wp2_with fail
      rw [← HV.out]
      refine CON.out.mono ?_; clear CON HV a0 a1 a2 a3 b0 b1 b2 b3
      rintro e w1 ⟨rfl, hl1⟩
      have HB1 := Lib.hid (HB.out.go hl1); clear HB hl1
      obtain ⟨a0, a1, a2, a3, b0, b1, b2, b3⟩ := eight_at HB1.out.box
      rcases eq_facts vx 0 with ⟨g0, e0, n0⟩ | ⟨g0, e0, n0⟩
      · subst g0
        rcases eq_facts l[k].1.kind 1 with ⟨g1, e1, n1⟩ | ⟨g1, e1, n1⟩
        · have CON := Lib.hid (CM.out w1 HB1.out.lay)
          have G1 := Lib.hid g1; clear g1
          go_wp2_with fail
          refine CON.out.mono ?_; clear CON a0 a1 a2 a3 b0 b1 b2 b3 CM
          rintro e w2 ⟨rfl, hl2⟩
          have HB2 := Lib.hid (HB1.out.go hl2); clear HB1 hl2
          obtain ⟨a0, a1, a2, a3, b0, b1, b2, b3⟩ := eight_at HB2.out.box
          rcases eq_facts cm 0 with ⟨g2, e2, n2⟩ | ⟨g2, e2, n2⟩
          · have hr : r = 1 := by have := HST.out; rw [bindE_2 HVX.out.symm (.inr (HCM.out.1 g2)), if_pos (by omega)] at this; exact this
            subst hr
            clear HST g2 HR HR0
            go_wp2_with fail
            go_ret
            exact ⟨rfl, HL.out.trans (HB2.out.lay.mono HL.out.size)⟩
          · have CON := Lib.hid (VT.out w2 HB2.out.lay)
            have HNE : Hid (l[k].1 ≠ l[k].2) := fun e => g2 (HCM.out.2 e)
            clear g2
            go_wp2_with fail
            refine CON.out.mono ?_; clear CON a0 a1 a2 a3 b0 b1 b2 b3 VT
            rintro e w3 ⟨rfl, hl3⟩
            have HB3 := Lib.hid (HB2.out.go hl3); clear HB2 hl3
            obtain ⟨a0, a1, a2, a3, b0, b1, b2, b3⟩ := eight_at HB3.out.box
            rcases eq_facts vt 0 with ⟨g3, e3, n3⟩ | ⟨g3, e3, n3⟩
            · subst g3
              have CON := Lib.hid (FT.out w3 HB3.out.lay)
              have hb4 := HST.out
              rw [bindE_4 HVX.out.symm G1.out HNE.out HVT.out.symm, ← HFT.out] at hb4
              have HB4' := Lib.hid hb4; clear hb4 HST
              cases ft with
              | false =>
                have hr : r = 10 := by have := HB4'.out; rw [if_pos rfl, if_pos (by omega)] at this; exact this
                subst hr
                clear HB4' HR HR0
                go_wp2_with fail
                refine CON.out.mono ?_
                rintro e w4 ⟨rfl, hl4⟩
                have HB4 := Lib.hid (HB3.out.go hl4); clear hl4
                go_wp2_with fail
                go_ret
                exact ⟨rfl, HL.out.trans (HB4.out.lay.mono HL.out.size)⟩
              | true =>
                have hst : r = if after (prevAt l k) l[k].1 = true then 5 else bindsAt l (k + 1) := by have := HB4'.out; rw [show (if true = false then (10 : Int) else 0) = 0 from rfl, if_neg (show ¬ (0 : Int) ≠ 0 by simp)] at this; exact this
                have HST := Lib.hid hst; clear hst HB4'
                go_wp2_with fail
                refine CON.out.mono ?_; clear CON a0 a1 a2 a3 b0 b1 b2 b3 FT
                rintro e w4 ⟨rfl, hl4⟩
                have HB4 := Lib.hid (HB3.out.go hl4); clear HB3 hl4
                have HL4 := Lib.hid (HL.out.trans (HB4.out.lay.mono HL.out.size))
                rcases Nat.eq_zero_or_pos k with hk0 | hk0
                · have q0 : decide (0 < k) = false := decide_eq_false (by omega)
                  have hnx : r = bindsAt l (k + 1) := by
                    have := HST.out
                    rw [if_neg (by subst hk0; simp [prevAt, after])] at this; exact this
                  have HNX := Lib.hid hnx; clear hnx HST hk0
                  go_wp2_with fail
                  go_quiet (fail)
                  go_wp2_with fail
                  go_roundw
                  case rel => exact ⟨k + 1, by omega, by go_num, HNX, HL4.out.drewN _⟩
                  case measure => simp [intOf]; omega
                · obtain ⟨j, rfl⟩ : ∃ j, k = j + 1 := ⟨k - 1, by omega⟩
                  have q0 : decide (0 < j + 1) = true := decide_eq_true (by omega)
                  have j1 : (0 : Int) ≤ (j : Int) := Int.natCast_nonneg _
                  have j2 : (j : Int) < (l.length : Int) := by omega
                  have j3 : IntKind.i64.wrap ((j : Int) + 1 - 1) = (j : Int) := by rw [IntKind.wrap_i64]; omega
                  have j4 : IntKind.i64.wrap (j : Int) = (j : Int) := by rw [IntKind.wrap_i64]; omega
                  obtain ⟨Aj, cj, Aj', cj', h8⟩ := HLR.out.get8 j (by omega)
                  obtain ⟨hxj, -⟩ := HSZ.out l[j] (List.getElem_mem (by omega))
                  have hlw : Below wr.heap.size wr w4 := HB4.out.lay.below
                  have hbj : kb < wr.heap.size := by have := HL.out.size; omega
                  have CMP : Hid (∀ Z, Below w4.heap.size w4 Z → Calls Tryz.prog 100 #[l[j].1.val Aj cj, l[j + 1].1.val A c] Z fun e w' => e = .returned (.int .i64 (l[j].1.cmp l[j + 1].1)) ∧ Lay Z.heap.size Z w') := Lib.hid fun Z h => by
                    have hz : Below wr.heap.size wr Z := below_then hlw h hlw.size
                    exact compare_any 1000000 l[j].1 l[j + 1].1 Aj A cj c Z hxj (by omega) hx (RepP.mono (fun b (hb : b < w.heap.size) => by have := HL.out.size; have := hz.size; omega) (fun p (hp : p.block < w.heap.size) => hz.cell (by have := HL.out.size; omega)) _ _ _ h8.r1) (HRX.out.go hz hz.size)
                  have hold : ∀ n os o, (grow (w4.drewN n) os).cell? ⟨kb, o, none⟩ = wr.cell? ⟨kb, o, none⟩ := fun n os o => ((Lay.of_grow (w := w4) n os).below.cell (by show kb < _; have := hlw.size; omega)).trans (hlw.cell (by exact hbj))
                  have p0 := fun n os => (hold n os _).trans h8.c0
                  have p1 := fun n os => (hold n os _).trans h8.c1
                  have p2 := fun n os => (hold n os _).trans h8.c2
                  have p3 := fun n os => (hold n os _).trans h8.c3
                  have hown : ∀ n os, (grow (w4.drewN n) os).heap[wr.heap.size]? = _ := fun n os => ((Lay.of_grow (w := w4) n os).below.block _ HB4.out.lt).trans HB4.out.box
                  have o0 := fun n os => (eight_at (hown n os)).1
                  have o1 := fun n os => (eight_at (hown n os)).2.1
                  have o2 := fun n os => (eight_at (hown n os)).2.2.1
                  have o3 := fun n os => (eight_at (hown n os)).2.2.2.1
                  have hst : r = if decide (0 ≤ l[j].1.cmp l[j + 1].1) = true then 5 else bindsAt l (j + 1 + 1) := by
                    have := HST.out
                    rw [prevAt_pos l (j + 1) hlt (by omega)] at this
                    exact this
                  obtain ⟨cp, hcp⟩ : ∃ v, v = l[j].1.cmp l[j + 1].1 := ⟨_, rfl⟩
                  rw [← hcp] at CMP hst
                  have HST2 := Lib.hid hst; clear hst HST hcp hold hown h8
                  simp only [Tm.val] at CMP
                  by_cases hg : 0 ≤ cp
                  · have d2 : decide (0 ≤ cp) = true := decide_eq_true hg
                    have hr : r = 5 := by rw [HST2.out, if_pos d2]
                    subst hr
                    clear HST2 HR HR0 hg
                    go_wp2_with fail
                    go_quiet_grown ((go_at_call 100; exact quiet_lay (CMP.out _ (Lay.of_grow _ _).below)))
                    go_wp2_with fail
                    go_ret
                    exact ⟨rfl, HL4.out.trans ((Lay.of_grow _ _).mono HL4.out.size)⟩
                  · have d2 : decide (0 ≤ cp) = false := decide_eq_false hg
                    have HNX : Hid (r = bindsAt l (j + 1 + 1)) := by rw [HST2.out, if_neg (by rw [d2]; simp)]; exact rfl
                    clear HST2 hg
                    go_wp2_with fail
                    go_quiet_grown ((go_at_call 100; exact quiet_lay (CMP.out _ (Lay.of_grow _ _).below)))
                    go_wp2_with fail
                    go_roundw
                    case rel => exact ⟨j + 1 + 1, by omega, by go_num, HNX, HL4.out.trans ((Lay.of_grow _ _).mono HL4.out.size)⟩
                    case measure => simp [intOf]; omega
            · have hr : r = vt := by have := HST.out; rw [bindE_3 HVX.out.symm G1.out HNE.out (by rw [← HVT.out]; exact g3), ← HVT.out, if_pos g3] at this; exact this
              subst hr
              clear HST g3 HR HR0
              go_wp2_with fail
              go_ret
              exact ⟨rfl, HL.out.trans (HB3.out.lay.mono HL.out.size)⟩
        · have hr : r = 1 := by have := HST.out; rw [bindE_2 HVX.out.symm (.inl g1), if_pos (by omega)] at this; exact this
          subst hr
          clear HST g1 HR HR0
          go_wp2_with fail
          go_ret
          exact ⟨rfl, HL.out.trans (HB1.out.lay.mono HL.out.size)⟩
      · have hr : r = vx := by have := HST.out; rw [bindE_1 (by rw [← HVX.out]; exact g0), ← HVX.out, if_pos g0] at this; exact this
        subst hr
        clear HST g0
        go_wp2_with fail
        go_ret
        exact ⟨rfl, HL.out.trans (HB1.out.lay.mono HL.out.size)⟩
    · obtain rfl : k = l.length := by omega
      have hr : r = 0 := by rw [HR.out]; exact bindsAt_end l
      subst hr
      clear HR HR0
      go_wp2_with fail
      go_ret
      exact ⟨rfl, HL.out⟩

set_option maxHeartbeats 4000000 in
set_option maxRecDepth 100000 in
theorem rsvalid_any (l : List Bd) (A0 : Option Addr) (cap0 : Nat) (w : World) (hsz : SizeB l) (hrep : RepB w (fun b => b < w.heap.size) l A0 cap0) :
    Calls Tryz.prog 68 #[.slice A0 l.length cap0] w fun e w' => e = .returned (.int .i64 (validS l)) ∧ Lay w.heap.size w w' := by
  have mixed : Tryz.prog.follows .mixedOrders = true := by kernel_rfl
  obtain ⟨r, hr⟩ : ∃ r, r = validS l := ⟨_, rfl⟩
  rw [← hr]
  unfold validS at hr
  obtain ⟨h1, h2, h3⟩ := hrep
  unfold maxLen at h2
  by_cases hlen : 200 < l.length
  · rw [if_pos hlen] at hr
    subst hr
    go_enter Tryz.func68, Tryz.ntmps68
    go_wp2_with fail
    go_ret
    exact ⟨rfl, Lay.refl _ _⟩
  rw [if_neg hlen] at hr
  have HSZ := Lib.hid hsz; clear hsz
  have HR0 : Hid (r = bindsAt l 0) := hr; clear hr
  go_enter Tryz.func68, Tryz.ntmps68
  go_wp2_with fail
  go_loopw [3] (fun i wr => ∃ k : Nat, k ≤ l.length ∧ i = .int .i64 k ∧ Hid (r = bindsAt l k) ∧ Hid (Lay w.heap.size w wr)) (fun i _ => l.length - (intOf i).toNat)
  case atStart => exact ⟨0, Nat.zero_le _, rfl, HR0, Lay.refl _ _⟩
  case round =>
    obtain ⟨k, hk, rfl, HR, HL⟩ := hrel
    have i1 : (0 : Int) ≤ (k : Int) := Int.natCast_nonneg _
    by_cases hlt : k < l.length
    · have i2 : (k : Int) < (l.length : Int) := by omega
      rcases h3 with rfl | ⟨kb, off, rfl, hbB, hl⟩
      · simp at hlt
      have hlr : RepLP wr (fun b => b < w.heap.size) (flat l) kb off := RepLP.mono (fun _ h => h) (fun p hp => HL.out.below.cell hp) _ _ _ hbB hl
      obtain ⟨A, c, A', c', h8⟩ := hlr.get8 k hlt
      obtain ⟨hx, ht⟩ := HSZ.out l[k] (List.getElem_mem hlt)
      have hrx : RepT wr wr.heap.size l[k].1 A c := RepP.mono (fun b (h : b < w.heap.size) => Nat.lt_of_lt_of_le h HL.out.size) (fun _ _ => rfl) _ _ _ h8.r1
      have hrt : RepT wr wr.heap.size l[k].2 A' c' := RepP.mono (fun b (h : b < w.heap.size) => Nat.lt_of_lt_of_le h HL.out.size) (fun _ _ => rfl) _ _ _ h8.r2
      have CON := rbinding_any l[k] A A' c c' wr hx ht hrx hrt
      have hst := bindsAt_step l k hlt
      rw [← HR.out] at hst
      have HRX := Lib.hid hrx; clear hrx hrt
      have HLR := Lib.hid hlr; clear hlr hl
      have H8 := Lib.hid h8
      obtain ⟨a0, a1, a2, a3, b0, b1, b2, b3, -, -⟩ := h8
      obtain ⟨be, hbe⟩ : ∃ v, v = bindE l[k] := ⟨_, rfl⟩
      rw [← hbe] at CON hst
      clear hbe
      have HST := Lib.hid hst; clear hst
      simp only [bval, bcells] at CON
      have CON := Lib.hid CON
      go_wp2_with fail
      refine CON.out.mono ?_; clear CON a0 a1 a2 a3 b0 b1 b2 b3
      rintro e w4 ⟨rfl, hl4⟩
      have HL4 := Lib.hid (HL.out.trans (hl4.mono HL.out.size))
      rcases eq_facts be 0 with ⟨g0, e0, n0⟩ | ⟨g0, e0, n0⟩
      · subst g0
        have hst : r = if after (prevAt l k) l[k].1 = true then 5 else bindsAt l (k + 1) := by have := HST.out; rw [if_neg (show ¬ (0 : Int) ≠ 0 by simp)] at this; exact this
        have HST2 := Lib.hid hst; clear hst HST
        rcases Nat.eq_zero_or_pos k with hk0 | hk0
        · have q0 : decide (0 < k) = false := decide_eq_false (by omega)
          have hnx : r = bindsAt l (k + 1) := by
            have := HST2.out
            rw [if_neg (by subst hk0; simp [prevAt, after])] at this; exact this
          have HNX := Lib.hid hnx; clear hnx HST2 hk0
          go_wp2_with fail
          go_quiet (fail)
          go_wp2_with fail
          go_roundw
          case rel => exact ⟨k + 1, by omega, by go_num, HNX, HL4.out.drewN _⟩
          case measure => simp [intOf]; omega
        · obtain ⟨j, rfl⟩ : ∃ j, k = j + 1 := ⟨k - 1, by omega⟩
          have q0 : decide (0 < j + 1) = true := decide_eq_true (by omega)
          have j1 : (0 : Int) ≤ (j : Int) := Int.natCast_nonneg _
          have j2 : (j : Int) < (l.length : Int) := by omega
          have j3 : IntKind.i64.wrap ((j : Int) + 1 - 1) = (j : Int) := by rw [IntKind.wrap_i64]; omega
          have j4 : IntKind.i64.wrap (j : Int) = (j : Int) := by rw [IntKind.wrap_i64]; omega
          have j5 : (0 : Int) ≤ (j : Int) + 1 := by omega
          have j6 : (j : Int) + 1 < (l.length : Int) := by omega
          obtain ⟨Aj, cj, Aj', cj', h8j⟩ := HLR.out.get8 j (by omega)
          obtain ⟨hxj, -⟩ := HSZ.out l[j] (List.getElem_mem (by omega))
          have hlw : Below wr.heap.size wr w4 := hl4.below
          have hbj : kb < wr.heap.size := by have := HL.out.size; omega
          have CMP : Hid (∀ Z, Below w4.heap.size w4 Z → Calls Tryz.prog 50 #[l[j].1.val Aj cj, l[j + 1].1.val A c] Z fun e w' => e = .returned (.int .i64 (l[j].1.cmp l[j + 1].1)) ∧ Lay Z.heap.size Z w') := Lib.hid fun Z h => by
            have hz : Below wr.heap.size wr Z := below_then hlw h hlw.size
            exact rcompare_any 1000000 l[j].1 l[j + 1].1 Aj A cj c Z hxj (by omega) hx (RepP.mono (fun b (hb : b < w.heap.size) => by have := HL.out.size; have := hz.size; omega) (fun p (hp : p.block < w.heap.size) => hz.cell (by have := HL.out.size; omega)) _ _ _ h8j.r1) (HRX.out.go hz hz.size)
          have hold : ∀ n os o, (grow (w4.drewN n) os).cell? ⟨kb, o, none⟩ = wr.cell? ⟨kb, o, none⟩ := fun n os o => ((Lay.of_grow (w := w4) n os).below.cell (by show kb < _; have := hlw.size; omega)).trans (hlw.cell (by exact hbj))
          have p0 := fun n os => (hold n os _).trans h8j.c0
          have p1 := fun n os => (hold n os _).trans h8j.c1
          have p2 := fun n os => (hold n os _).trans h8j.c2
          have p3 := fun n os => (hold n os _).trans h8j.c3
          have o0 := fun n os => (hold n os _).trans H8.out.c0
          have o1 := fun n os => (hold n os _).trans H8.out.c1
          have o2 := fun n os => (hold n os _).trans H8.out.c2
          have o3 := fun n os => (hold n os _).trans H8.out.c3
          have hst : r = if decide (0 ≤ l[j].1.cmp l[j + 1].1) = true then 5 else bindsAt l (j + 1 + 1) := by
            have := HST2.out
            rw [prevAt_pos l (j + 1) hlt (by omega)] at this
            exact this
          obtain ⟨cp, hcp⟩ : ∃ v, v = l[j].1.cmp l[j + 1].1 := ⟨_, rfl⟩
          rw [← hcp] at CMP hst
          have HST3 := Lib.hid hst; clear hst HST2 hcp hold h8j
          simp only [Tm.val] at CMP
          by_cases hg : 0 ≤ cp
          · have d2 : decide (0 ≤ cp) = true := decide_eq_true hg
            have hr : r = 5 := by rw [HST3.out, if_pos d2]
            subst hr
            clear HST3 HR HR0 hg
            go_wp2_with fail
            go_quiet_grown ((go_at_call 50; exact quiet_lay (CMP.out _ (Lay.of_grow _ _).below)))
            go_wp2_with fail
            go_ret
            exact ⟨rfl, HL4.out.trans ((Lay.of_grow _ _).mono HL4.out.size)⟩
          · have d2 : decide (0 ≤ cp) = false := decide_eq_false hg
            have HNX : Hid (r = bindsAt l (j + 1 + 1)) := by rw [HST3.out, if_neg (by rw [d2]; simp)]; exact rfl
            clear HST3 hg
            go_wp2_with fail
            go_quiet_grown ((go_at_call 50; exact quiet_lay (CMP.out _ (Lay.of_grow _ _).below)))
            go_wp2_with fail
            go_roundw
            case rel => exact ⟨j + 1 + 1, by omega, by go_num, HNX, HL4.out.trans ((Lay.of_grow _ _).mono HL4.out.size)⟩
            case measure => simp [intOf]; omega
      · have hr : r = be := by have := HST.out; rw [if_pos g0] at this; exact this
        subst hr
        clear HST HR HR0 g0
        go_wp2_with fail
        go_ret
        exact ⟨rfl, HL4.out⟩
    · obtain rfl : k = l.length := by omega
      have hr : r = 0 := by rw [HR.out]; exact bindsAt_end l
      subst hr
      clear HR HR0
      go_wp2_with fail
      go_ret
      exact ⟨rfl, HL.out⟩
end Go.Proofs.YtipmibjhlpnhjaaGreatDoor
