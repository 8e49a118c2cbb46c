/- term.Replace. -/
import Derived.Test.YtbgkabgbgbebaaaDoorCloneF
import Derived.Test.YtbgkabgbgbebaaaDoorCompareLaw
namespace Go.Proofs.YtbgkabgbgbebaaaDoor
open Go.RowKit

theorem set4_at {W : World} {b o : Nat} {c0 c1 c2 c3 : Value} (x y z u : Value) (h0 : W.cell? ⟨b, o, none⟩ = some c0) (h1 : W.cell? ⟨b, o + 1, none⟩ = some c1) (h2 : W.cell? ⟨b, o + 2, none⟩ = some c2) (h3 : W.cell? ⟨b, o + 3, none⟩ = some c3) :
    ∃ W', W' = ((((W.setCell ⟨b, o, none⟩ x).setCell ⟨b, o + 1, none⟩ y).setCell ⟨b, o + 2, none⟩ z).setCell ⟨b, o + 3, none⟩ u) ∧ W'.cell? ⟨b, o, none⟩ = some x ∧ W'.cell? ⟨b, o + 1, none⟩ = some y ∧ W'.cell? ⟨b, o + 2, none⟩ = some z ∧ W'.cell? ⟨b, o + 3, none⟩ = some u ∧
      (∀ q : Addr, ¬ (q.block = b ∧ o ≤ q.off ∧ q.off < o + 4) → W'.cell? q = W.cell? q) ∧ W'.heap.size = W.heap.size ∧ (∀ k, k ≠ b → W'.heap[k]? = W.heap[k]?) ∧ (∀ C, C ≤ b → ∀ w, Below C w W → Below C w W') ∧ ∀ q : Addr, W'.frozen? q = W.frozen? q := by
  refine ⟨_, rfl, ?_, ?_, ?_, ?_, fun q hq => ?_, by simp [World.setCell], fun k hk => ?_, fun C hC w hb => (((hb.setCell hC x).setCell hC y).setCell hC z).setCell hC u, fun q => ?_⟩
  · rw [World.cell?_setCell_other _ _ _ _ (by simp), World.cell?_setCell_other _ _ _ _ (by simp), World.cell?_setCell_other _ _ _ _ (by simp)]
    exact World.cell?_setCell_same _ _ _ h0
  · rw [World.cell?_setCell_other _ _ _ _ (by simp), World.cell?_setCell_other _ _ _ _ (by simp)]
    exact World.cell?_setCell_same (u := c1) _ _ _ (by rw [World.cell?_setCell_other _ _ _ _ (by simp)]; exact h1)
  · rw [World.cell?_setCell_other _ _ _ _ (by simp)]
    exact World.cell?_setCell_same (u := c2) _ _ _ (by rw [World.cell?_setCell_other _ _ _ _ (by simp), World.cell?_setCell_other _ _ _ _ (by simp)]; exact h2)
  · exact World.cell?_setCell_same (u := c3) _ _ _ (by rw [World.cell?_setCell_other _ _ _ _ (by simp), World.cell?_setCell_other _ _ _ _ (by simp), World.cell?_setCell_other _ _ _ _ (by simp)]; exact h3)
  · have hne : ∀ j, j < 4 → (⟨b, o + j, none⟩ : Addr) ≠ q := fun j hj e => hq (by rw [← e]; exact ⟨rfl, by show o ≤ o + j; omega, by show o + j < o + 4; omega⟩)
    rw [World.cell?_setCell_other _ _ _ _ (hne 3 (by omega)), World.cell?_setCell_other _ _ _ _ (hne 2 (by omega)), World.cell?_setCell_other _ _ _ _ (hne 1 (by omega)), World.cell?_setCell_other _ _ _ _ (show (⟨b, o, none⟩ : Addr) ≠ q from hne 0 (by omega))]
  · have : b ≠ k := fun e => hk e.symm
    simp [World.setCell, Array.getElem?_modify, this]
  · rw [World.frozen?_setCell, World.frozen?_setCell, World.frozen?_setCell, World.frozen?_setCell]

/-- What the program's At and Replace return: new memory with a skeleton, or the error. -/
def AtOfS (w : World) (r : Option Tm) (e : Ending) (w' : World) : Prop :=
  Below w.heap.size w w' ∧ match r with
    | none => e = .returned (.tuple #[.agg #[.int .i64 0, .string ⟨#[]⟩, .int .i64 0, .slice none 0 0], .int .i64 7])
    | some u => ∃ A c, e = .returned (.tuple #[u.val A c, .int .i64 0]) ∧ RepP w' (fun b => w.heap.size ≤ b ∧ b < w'.heap.size) u A c ∧ Sk w' w.heap.size u A
theorem AtOfS.toAt {w : World} {r : Option Tm} {e : Ending} {w' : World} (h : AtOfS w r e w') : AtOf w r e w' := by
  obtain ⟨hb, h⟩ := h
  refine ⟨hb, ?_⟩
  cases r with
  | none => exact h
  | some u => obtain ⟨A, c, h1, h2, -⟩ := h; exact ⟨A, c, h1, h2⟩
/-- What Replace returns. -/
def Tm.repl (p : List Int) (t u : Tm) : Option Tm := match Tm.atP p t with
  | some _ => some (Tm.putP p t u)
  | none => none
theorem Tm.repl_none {p : List Int} {t u : Tm} (h : Tm.atP p t = none) : Tm.repl p t u = none := by unfold Tm.repl; rw [h]
theorem Tm.repl_some {p : List Int} {t u v : Tm} (h : Tm.atP p t = some v) : Tm.repl p t u = some (Tm.putP p t u) := by unfold Tm.repl; rw [h]

set_option maxHeartbeats 2000000 in
set_option maxRecDepth 100000 in
theorem replace_sk (t u : Tm) (A Au : Option Addr) (cap cu : Nat) (p : List Int) (Ap : Option Addr) (cp : Nat) (w : World) (ht : t.size ≤ 1000000) (hu : u.size ≤ 1000000) (hp : p.length ≤ 1000000)
    (hrep : RepT w w.heap.size t A cap) (hrepu : RepT w w.heap.size u Au cu) (hrp : RepI w (fun b => b < w.heap.size) p Ap cp) :
    Calls Tryd.prog 33 #[t.val A cap, .slice Ap p.length cp, u.val Au cu] w (AtOfS w (Tm.repl p t u)) := by
  obtain ⟨V1, hV1⟩ : ∃ V, V = w.alloc (boxOf t A cap) := ⟨_, rfl⟩
  obtain ⟨V2, hV2⟩ : ∃ V, V = V1.alloc (boxOf u Au cu) := ⟨_, rfl⟩
  obtain ⟨V, hV⟩ : ∃ V, V = V2.alloc (boxOf (.mk 0 ⟨#[]⟩ 0 []) none 0) := ⟨_, rfl⟩
  have hs1 : V1.heap.size = w.heap.size + 1 := by rw [hV1]; simp
  have hs2 : V2.heap.size = w.heap.size + 1 + 1 := by rw [hV2]; simp [hs1]
  have hs3 : V.heap.size = w.heap.size + 3 := by rw [hV]; simp [hs2]
  have k1 : Below w.heap.size w V1 := by rw [hV1]; exact below1 (Nat.le_refl _) _
  have k2 : Below V1.heap.size V1 V2 := by rw [hV2]; exact below1 (Nat.le_refl _) _
  have k3 : Below V2.heap.size V2 V := by rw [hV]; exact below1 (Nat.le_refl _) _
  have k12 := below_then k1 k2 k1.size
  have hbV : Below w.heap.size w V := below_then k12 k3 k12.size
  have hxt : BoxT V w.heap.size t A cap := (show BoxT V1 w.heap.size t A cap by rw [hV1]; exact BoxT.new hrep).below (below_then k2 k3 k2.size)
  have hxu : BoxT V (w.heap.size + 1) u Au cu := (show BoxT V2 (w.heap.size + 1) u Au cu by rw [hV2, ← hs1]; exact BoxT.new (hrepu.go k1 k1.size)).below k3
  have hxz : V.heap[w.heap.size + 1 + 1]? = some (boxOf (.mk 0 ⟨#[]⟩ 0 []) none 0) := by rw [hV, ← hs2]; exact heap_alloc_new _ _
  rw [hV2, hV1] at hV
  have HRP := Lib.hid (hrp.go hbV hbV.size); clear hrp hrep hrepu k1 k2 k3 k12 hs1 hs2 hV1 hV2
  have HBV := Lib.hid hbV; clear hbV
  have HXT := Lib.hid hxt; clear hxt
  have HXU := Lib.hid hxu; clear hxu
  have HXZ := Lib.hid hxz; clear hxz
  have HS3 := Lib.hid hs3; clear hs3
  have HT := Lib.hid ht; clear ht
  have HU := Lib.hid hu; clear hu
  rw [show boxOf (.mk 0 ⟨#[]⟩ 0 []) none 0 = .cells #[.int .i64 0, .string ⟨#[]⟩, .int .i64 0, .slice none 0 0] 24 from rfl] at hV
  simp only [boxOf] at hV
  have HV := Lib.hid hV; clear hV
  simp only [Tm.val]
  go_enter Tryd.func33, Tryd.ntmps33
  go_wp2_with fail
  rw [← HV.out]
  refine (clone_sep 1000000 t A cap V HT.out (by decide) HXT.out.2).mono ?_
  clear HV
  rintro e w1 ⟨A1, c1, fp, rfl, hF, hnd, hin, hb1⟩
  obtain ⟨Bc, hBc⟩ : ∃ b, b = w1.heap.size := ⟨_, rfl⟩
  obtain ⟨W, hW⟩ : ∃ W, W = w1.alloc (boxOf t A1 c1) := ⟨_, rfl⟩
  have hbW : Below w1.heap.size w1 W := by rw [hW]; exact below1 (Nat.le_refl _) _
  have hWs : W.heap.size = Bc + 1 := by rw [hW, hBc]; simp
  have hFW : RepF W t A1 c1 fp := RepF.mono _ _ _ _ hF (fun q hq => ⟨hbW.cell (hin _ hq).2, hbW.frozen (hin _ hq).2⟩)
  have hWn : W.heap[Bc]? = some (boxOf t A1 c1) := by rw [hW, hBc]; exact heap_alloc_new _ _
  obtain ⟨n0, n1, n2, n3, n4⟩ := box_at hWn
  have hD0 : Desc W t Bc 0 fp [] t Bc 0 fp := Desc.start ⟨A1, c1, n0, n1, n2, n3, hFW⟩ (fun h => by have := (hin _ h).2; omega) hnd n4
  have hVW := below_then hb1 hbW hb1.size
  have hBW := below_then HBV.out hVW HBV.out.size
  have hxu := HXU.out.below hVW
  have hxz := (hVW.block _ (Array.getElem?_eq_some_iff.1 HXZ.out).1).trans HXZ.out
  have hrpW := HRP.out.go hVW hVW.size
  have hsV := hb1.size
  have hin' : ∀ x ∈ fp, w.heap.size + 3 ≤ x ∧ x < Bc := fun x hx => by have := hin x hx; have := HS3.out; omega
  have hBc2 : w.heap.size + 3 ≤ Bc := by have := HS3.out; omega
  simp only [boxOf] at hW
  clear hF hFW hWn n0 n1 n2 n3 n4 hin hnd hbW hb1 hVW HBV HXT HXU HXZ HRP HS3 hsV HT
  have HWW := Lib.hid hW; clear hW
  have HD0 := Lib.hid hD0; clear hD0
  have HBW := Lib.hid hBW; clear hBW
  have HXU := Lib.hid hxu; clear hxu
  have HXZ := Lib.hid hxz; clear hxz
  have HRP := Lib.hid hrpW; clear hrpW
  have HIN := Lib.hid hin'; clear hin'
  have HBC := Lib.hid hBc; clear hBc
  have HWS := Lib.hid hWs; clear hWs
  go_wp2_with fail
  rw [← HBC.out]
  go_loopw [9, 16] (fun pv i wr => ∃ (k : Nat) (v : Tm) (b' off' : Nat) (f' : List Nat), k ≤ p.length ∧ i = .int .i64 k ∧ pv = .pointer (some ⟨b', off', none⟩) ∧ Hid (Desc W t Bc 0 fp (p.take k) v b' off' f') ∧ wr = W) (fun _ i _ => p.length - (intOf i).toNat)
  case atStart => exact ⟨0, t, Bc, 0, fp, Nat.zero_le _, rfl, rfl, HD0.out, HWW.out.symm⟩
  case round =>
    obtain ⟨k, v, b', off', f', hk, rfl, rfl, HD, rfl⟩ := hrel
    obtain ⟨A', c', l0, l1, l2, l3, lr⟩ := HD.out.loc
    have i1 : (0 : Int) ≤ (k : Int) := Int.natCast_nonneg _
    clear HD0 HWW
    by_cases hlt : k < p.length
    · have i2 : (k : Int) < (p.length : Int) := by omega
      obtain ⟨-, -, hpc⟩ := HRP.out
      rcases hpc with rfl | ⟨bp, offp, rfl, hbp, hpl⟩
      · simp at hlt
      have hx := hpl k hlt
      have hsplit : p.take k ++ p.drop k = p := List.take_append_drop k p
      have he : Tm.atP p t = Tm.atP (p.drop k) v := by
        have := Tm.atP_append (p.take k) (p.drop k) t
        rw [hsplit, HD.out.at_] at this
        exact this
      rw [Tm.at_drop hlt v] at he
      have htk : p.take (k + 1) = p.take k ++ [p[k]] := List.take_succ_eq_append_getElem hlt
      obtain ⟨x, hxe⟩ : ∃ x, x = p[k] := ⟨_, rfl⟩
      rw [← hxe] at hx he htk
      clear hxe hpl hsplit
      by_cases hx0 : x < 0
      · have hn := Tm.kid_none (t := v) (.inl hx0)
        have hres : Tm.repl p t u = none := Tm.repl_none (by rw [he, hn])
        have HRES := Lib.hid hres; clear hres hn he htk
        have d1 : decide (x < 0) = true := decide_eq_true hx0
        obtain ⟨r0, r1, r2, r3, r4⟩ := box_at HXZ.out
        simp only [Tm.kind, Tm.name, Tm.sort, Tm.kids, List.length_nil] at r0 r1 r2 r3
        go_wp2_with fail
        refine bodyPost_ret (v := .tuple #[.agg #[.int .i64 0, .string ⟨#[]⟩, .int .i64 0, .slice none 0 0], .int .i64 7]) ?_ rfl ?_
        · simp [results, Tryd.results33, go_sem, r0, r1, r2, r3]
        unfold AtOfS
        rw [HRES.out]
        exact ⟨below_set4 HBW.out (by omega), rfl⟩
      · have d1 : decide (x < 0) = false := decide_eq_false hx0
        by_cases hx1 : (v.kids.length : Int) ≤ x
        · have hn := Tm.kid_none (t := v) (.inr hx1)
          have hres : Tm.repl p t u = none := Tm.repl_none (by rw [he, hn])
          have HRES := Lib.hid hres; clear hres hn he htk
          have d2 : decide ((v.kids.length : Int) ≤ x) = true := decide_eq_true hx1
          obtain ⟨r0, r1, r2, r3, r4⟩ := box_at HXZ.out
          simp only [Tm.kind, Tm.name, Tm.sort, Tm.kids, List.length_nil] at r0 r1 r2 r3
          go_wp2_with fail
          refine bodyPost_ret (v := .tuple #[.agg #[.int .i64 0, .string ⟨#[]⟩, .int .i64 0, .slice none 0 0], .int .i64 7]) ?_ rfl ?_
          · simp [results, Tryd.results33, go_sem, r0, r1, r2, r3]
          unfold AtOfS
          rw [HRES.out]
          exact ⟨below_set4 HBW.out (by omega), rfl⟩
        · have d2 : decide ((v.kids.length : Int) ≤ x) = false := decide_eq_false hx1
          have hn := Tm.kid_some (t := v) (i := x) (by omega) (by omega)
          obtain ⟨bk, ok, c, f'', l3', hD⟩ := HD.out.step hn
          rw [← htk] at hD
          have HD2 := Lib.hid hD; clear hD hn he htk l3 lr
          have x0 : 0 ≤ x := by omega
          have x1 : x < (v.kids.length : Int) := by omega
          go_wp2_with fail
          go_roundw
          case rel => exact ⟨k + 1, _, bk, ok + x.toNat * 4, f'', by omega, by go_num, rfl, HD2.out, by first | rfl | trivial⟩
          case measure => simp [intOf]; omega
    · obtain rfl : k = p.length := by omega
      have hD := HD.out
      rw [List.take_length] at hD
      have HRES := Lib.hid (Tm.repl_some (u := u) hD.at_)
      have HD := Lib.hid hD; clear hD
      have CL := Lib.hid (clone_sep 1000000 u Au cu wr HU.out (by decide) HXU.out.2)
      obtain ⟨u0, u1, u2, u3, -⟩ := HXU.out.cells
      simp only [Tm.val] at CL
      go_wp2_with fail
      refine CL.out.mono ?_
      rintro e w2 ⟨A2, c2, fu, rfl, hF2, -, hin2, hb2⟩
      have hr2 := RepF.toP (P := fun b => wr.heap.size ≤ b ∧ b < w2.heap.size) _ _ _ _ hF2 hin2
      clear CL u0 u1 u2 u3
      have hown : b' < wr.heap.size := by
        rcases HD.out.own with h | h
        · have := HWS.out; omega
        · have := (HIN.out _ h).2; have := HWS.out; omega
      have hownw : w.heap.size ≤ b' := by
        rcases HD.out.own with h | h
        · omega
        · have := (HIN.out _ h).1; omega
      have m0 := (hb2.cell (p := ⟨b', off', none⟩) hown).trans l0
      have m1 := (hb2.cell (p := ⟨b', off' + 1, none⟩) hown).trans l1
      have m2 := (hb2.cell (p := ⟨b', off' + 2, none⟩) hown).trans l2
      have m3 := (hb2.cell (p := ⟨b', off' + 3, none⟩) hown).trans l3
      have m4 : ∀ o, w2.frozen? ⟨b', o, none⟩ = false := fun o => (hb2.frozen (p := ⟨b', o, none⟩) hown).trans (HD.out.cold o)
      clear l0 l1 l2 l3 lr
      obtain ⟨W3, hW3, s0, s1, s2, s3, hoth, hsz, hblk, hbel, hfz3⟩ := set4_at (.int .i64 u.kind) (.string u.name) (.int .i64 u.sort) (.slice A2 u.kids.length c2) m0 m1 m2 m3
      have hb23 : Below w.heap.size w W3 := hbel _ hownw _ (HBW.out.trans (hb2.mono HBW.out.size))
      have hlp : LocP W3 (fun x => w.heap.size + 3 ≤ x ∧ x < W3.heap.size) u b' off' := ⟨A2, c2, s0, s1, s2, s3, RepP.mono (fun x ⟨h1, h2⟩ => ⟨by have := HWS.out; omega, by omega⟩) (fun q ⟨h1, _⟩ => hoth q (fun ⟨h, _⟩ => by omega)) _ _ _ hr2⟩
      have hW23 := hb2.size
      have hfill := HD.out.fill (fun x => w.heap.size + 3 ≤ x ∧ x < W3.heap.size) W3 u (fun x hx => by have h1 := HIN.out x hx; have h2 := HWS.out; exact ⟨by omega, by omega⟩) (fun q hq h1 h2 => by
        rw [hoth q h1]
        refine hb2.cell ?_
        rcases hq with h | h
        · have := HWS.out; omega
        · have := (HIN.out _ h).2; have := HWS.out; omega) hlp
      obtain ⟨A3, c3, f0, f1, f2, f3, fr⟩ := hfill
      have hls : LocS W3 (w.heap.size + 3) u b' off' := ⟨A2, c2, _, _, _, s0, s1, s2, s3, RepF.toS _ _ _ _ (RepF.mono _ _ _ _ hF2 (fun q hq => ⟨hoth q (fun ⟨h, _⟩ => by have := (hin2 _ hq).1; omega), hfz3 q⟩)) (fun x hx => by have := hin2 x hx; have := HWS.out; omega)⟩
      have hfillS := HD.out.fillS (w.heap.size + 3) W3 u (fun x hx => by have h1 := HIN.out x hx; have h2 := HWS.out; exact ⟨by omega, by omega⟩) (fun q hq => by
        rw [hfz3 q]
        exact hb2.frozen (by have h1 := (HIN.out _ hq).2; have h2 := HWS.out; omega)) (fun q hq h1 h2 => by
        rw [hoth q h1]
        refine hb2.cell ?_
        rcases hq with h | h
        · have := HWS.out; omega
        · have := (HIN.out _ h).2; have := HWS.out; omega) hls
      have hsk : Sk W3 (w.heap.size + 3) (Tm.putP p t u) A3 := by
        obtain ⟨A4, c4, x4, y4, z4, -, -, -, g3, gs⟩ := hfillS
        rw [f3] at g3
        injection g3 with g3
        injection g3 with g3
        rw [g3]
        exact gs
      have HSK := Lib.hid hsk; clear hsk hfillS hls hF2 hin2 hfz3
      have hz3 : w.heap.size + 1 + 1 ≠ b' := fun e => by
        rcases HD.out.own with h | h
        · omega
        · have := (HIN.out _ h).1; omega
      have hzl := (Array.getElem?_eq_some_iff.1 HXZ.out).1
      have hz := (hblk _ hz3).trans ((hb2.block _ hzl).trans HXZ.out)
      obtain ⟨r0, r1, r2, r3, r4⟩ := box_at hz
      simp only [Tm.kind, Tm.name, Tm.sort, Tm.kids, List.length_nil] at r0 r1 r2 r3
      clear hlp hoth hblk hbel s0 s1 s2 s3 hr2 hz hzl hz3 hown hownw
      have HB23 := Lib.hid hb23; clear hb23
      have HFR := Lib.hid fr; clear fr
      have HSZ := Lib.hid hsz; clear hsz
      have hbc3 : Bc < W3.heap.size := by have := HSZ.out; have := HWS.out; omega
      have HBC3 := Lib.hid hbc3; clear hbc3
      have HB2 := Lib.hid hb2; clear hb2
      rw [hW3] at f0 f1 f2 f3 r0 r1 r2 r3 r4
      have HW3 := Lib.hid hW3; clear hW3 hW23
      go_wp2_with fail
      refine bodyPost_ret (v := .tuple #[.agg #[.int .i64 (Tm.putP p t u).kind, .string (Tm.putP p t u).name, .int .i64 (Tm.putP p t u).sort, .slice A3 (Tm.putP p t u).kids.length c3], .int .i64 0]) ?_ rfl ?_
      · simp [results, Tryd.results33, go_sem, r0, r1, r2, r3]
      rw [← HW3.out]
      unfold AtOfS
      rw [HRES.out]
      refine ⟨below_set4 HB23.out (by omega), A3, c3, rfl, ?_, Sk.keep (by simp [World.setCell]) (by omega) (fun b hb _ => heap_set4_other (by omega)) _ _ HSK.out⟩
      exact RepP.mono (fun b ⟨h1, h2⟩ => ⟨by omega, by simpa [World.setCell] using h2⟩) (fun q ⟨h1, _⟩ => World.cell?_of_block (heap_set4_other (by omega))) _ _ _ HFR.out
theorem replace_any (t u : Tm) (A Au : Option Addr) (cap cu : Nat) (p : List Int) (Ap : Option Addr) (cp : Nat) (w : World) (ht : t.size ≤ 1000000) (hu : u.size ≤ 1000000) (hp : p.length ≤ 1000000)
    (hrep : RepT w w.heap.size t A cap) (hrepu : RepT w w.heap.size u Au cu) (hrp : RepI w (fun b => b < w.heap.size) p Ap cp) :
    Calls Tryd.prog 33 #[t.val A cap, .slice Ap p.length cp, u.val Au cu] w (AtOf w (Tm.repl p t u)) :=
  (replace_sk t u A Au cap cu p Ap cp w ht hu hp hrep hrepu hrp).mono fun _ _ h => h.toAt
end Go.Proofs.YtbgkabgbgbebaaaDoor
