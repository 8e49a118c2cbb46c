/- The document's Replace. -/
import Derived.Test.YtbgkabgbgbebaaaDoorReplace
import Derived.Test.YtbgkabgbgbebaaaDoorMore
import Derived.Test.YtbgkabgbgbebaaaDoorMix
import Derived.BigQuiet
namespace Go.Proofs.YtbgkabgbgbebaaaDoor
open Go.RowKit

def tZero : Tm := .mk 0 ⟨#[]⟩ 0 []
theorem rep_zero (w : World) (P : Nat → Prop) : RepP w P tZero none 0 := by
  unfold tZero
  rw [RepP_mk]
  exact ⟨Nat.zero_le _, Nat.zero_le _, Nat.zero_le _, .inl rfl⟩
/-- What the document's Replace returns: a term in memory that is there, and the error. -/
def RreplOf (w : World) (B : Nat) (r : Option Tm) (e : Ending) (w' : World) : Prop :=
  Below w.heap.size w w' ∧ ∃ y A c ec, e = .returned (.tuple #[y.val A c, .int .i64 ec]) ∧ RepP w' (fun b => (b < B ∨ w.heap.size ≤ b) ∧ b < w'.heap.size) y A c ∧ ((r = none ∧ ec = 7 ∧ y.val A c = tZero.val none 0 ∧ y = tZero) ∨ (r = some y ∧ ec = 0))
theorem RepI.tail {w : World} {P : Nat → Prop} {i : Int} {r : List Int} {b off c : Nat} (h : RepI w P (i :: r) (some ⟨b, off, none⟩) c) (hc : r.length + 1 ≤ c) : RepI w P r (if c = 1 then some ⟨b, off, none⟩ else some ⟨b, off + 1, none⟩) (c - 1) := by
  obtain ⟨h1, h2, h3⟩ := h
  refine ⟨by omega, by omega, ?_⟩
  by_cases hc1 : c = 1
  · left; exact List.eq_nil_of_length_eq_zero (by omega)
  rw [if_neg hc1]
  rcases h3 with h3 | ⟨b', off', he, hb, hl⟩
  · cases h3
  · injection he with he
    injection he with e1 e2
    subst e1 e2
    refine .inr ⟨b, off + 1, rfl, hb, fun j hj => ?_⟩
    have := hl (j + 1) (by simpa using hj)
    rw [show off + 1 + j = off + (j + 1) by omega]
    simpa using this
theorem RepT.name {w : World} {B : Nat} {t : Tm} {A : Option Addr} {c : Nat} (h : RepT w B t A c) : t.name.size ≤ maxLen := by
  obtain ⟨k, n, s, l⟩ := t
  rw [RepT_mk] at h
  exact h.1
theorem Tm.repl_cons (i : Int) (r : List Int) (t u : Tm) : Tm.repl (i :: r) t u = match t.kid i with
    | some k => (Tm.repl r k u).map fun y => .mk t.kind t.name t.sort (t.kids.set i.toNat y)
    | none => none := by
  unfold Tm.repl
  rw [Tm.atP]
  cases hk : t.kid i with
  | none => rfl
  | some k =>
    simp only
    cases ha : Tm.atP r k with
    | none => rfl
    | some v => simp only [Option.map_some, Tm.putP, hk]
theorem Tm.put_size : ∀ (p : List Int) (t u : Tm), (Tm.putP p t u).size ≤ t.size + u.size
  | [], t, u => by rw [Tm.putP]; omega
  | i :: r, t, u => by
    rw [Tm.putP]
    cases hk : t.kid i with
    | none => simp only; omega
    | some k =>
      simp only
      obtain ⟨-, hl, he⟩ := Tm.kid_lt hk
      have h1 := Tm.put_size r k u
      obtain ⟨tk, tn, ts, l⟩ := t
      simp only [Tm.kids, Tm.kind, Tm.name, Tm.sort] at hl he ⊢
      rw [Tm.size, Tm.size]
      have key : ∀ (l : List Tm) (j : Nat) (hj : j < l.length) (y : Tm), Tm.sizes (l.set j y) + l[j].size = Tm.sizes l + y.size := by
        intro l
        induction l with
        | nil => intro j hj; simp at hj
        | cons a l ih =>
          intro j hj y
          cases j with
          | zero => simp only [List.set_cons_zero, Tm.sizes, List.getElem_cons_zero]; omega
          | succ j =>
            have := ih j (by simpa using hj) y
            simp only [List.set_cons_succ, Tm.sizes, List.getElem_cons_succ]; omega
      have h2 := key l i.toNat hl (Tm.putP r k u)
      rw [he] at h2
      omega

theorem RepI.below {w w' : World} {B : Nat} {p : List Int} {A : Option Addr} {cap : Nat} (h : RepI w (fun b => b < B) p A cap) (hb : Below B w w') : RepI w' (fun b => b < B) p A cap :=
  h.mono (fun _ h => h) (fun _ hq => hb.cell hq)
theorem boxes3 {w : World} {t u : Tm} {A Au : Option Addr} {cap cu : Nat} (hrep : RepT w w.heap.size t A cap) (hrepu : RepT w w.heap.size u Au cu) :
    ∃ V, V = ((w.alloc (.cells #[.int .i64 t.kind, .string t.name, .int .i64 t.sort, .slice A t.kids.length cap] 24)).alloc (.cells #[.int .i64 u.kind, .string u.name, .int .i64 u.sort, .slice Au u.kids.length cu] 24)).alloc (.cells #[.int .i64 0, .string ⟨#[]⟩, .int .i64 0, .slice none 0 0] 24) ∧
      BoxT V w.heap.size t A cap ∧ BoxT V (w.heap.size + 1) u Au cu ∧ V.heap[w.heap.size + 1 + 1]? = some (boxOf (.mk 0 ⟨#[]⟩ 0 []) none 0) ∧ V.heap.size = w.heap.size + 3 ∧ Below w.heap.size w V := by
  obtain ⟨V1, hV1⟩ : ∃ V, V = w.alloc (boxOf t A cap) := ⟨_, rfl⟩
  obtain ⟨V2, hV2⟩ : ∃ V, V = V1.alloc (boxOf u Au cu) := ⟨_, rfl⟩
  obtain ⟨V, hV⟩ : ∃ V, V = V2.alloc (boxOf (.mk 0 ⟨#[]⟩ 0 []) none 0) := ⟨_, rfl⟩
  have hs1 : V1.heap.size = w.heap.size + 1 := by rw [hV1]; simp
  have hs2 : V2.heap.size = w.heap.size + 1 + 1 := by rw [hV2]; simp [hs1]
  have hs3 : V.heap.size = w.heap.size + 3 := by rw [hV]; simp [hs2]
  have k1 : Below w.heap.size w V1 := by rw [hV1]; exact below1 (Nat.le_refl _) _
  have k2 : Below V1.heap.size V1 V2 := by rw [hV2]; exact below1 (Nat.le_refl _) _
  have k3 : Below V2.heap.size V2 V := by rw [hV]; exact below1 (Nat.le_refl _) _
  have k12 := below_then k1 k2 k1.size
  refine ⟨V, by rw [hV, hV2, hV1]; rfl, ?_, ?_, ?_, hs3, below_then k12 k3 k12.size⟩
  · exact (show BoxT V1 w.heap.size t A cap by rw [hV1]; exact BoxT.new hrep).below (below_then k2 k3 k2.size)
  · exact (show BoxT V2 (w.heap.size + 1) u Au cu by rw [hV2, ← hs1]; exact BoxT.new (hrepu.go k1 k1.size)).below k3
  · rw [hV, ← hs2]; exact heap_alloc_new _ _

set_option maxHeartbeats 4000000 in
set_option maxRecDepth 100000 in
theorem rreplace_any (B : Nat) (u : Tm) (hu : u.size ≤ 1000000) : ∀ (p : List Int) (t : Tm) (A Au : Option Addr) (cap cu : Nat) (Ap : Option Addr) (cp : Nat) (w : World), B ≤ w.heap.size → t.size ≤ 1000000 → p.length ≤ 1000000 →
    RepT w B t A cap → RepT w B u Au cu → RepI w (fun b => b < B) p Ap cp →
    Calls Tryd.prog 35 #[t.val A cap, .slice Ap p.length cp, u.val Au cu] w (RreplOf w B (Tm.repl p t u)) := by
  have mixed : Tryd.prog.follows .mixedOrders = true := by kernel_rfl
  intro p
  induction p with
  | nil =>
    intro t A Au cap cu Ap cp w hBw ht hp hrep hrepu hrp
    have hb : Below w.heap.size w (((w.alloc (.cells #[.int .i64 t.kind, .string t.name, .int .i64 t.sort, .slice A t.kids.length cap] 24)).alloc (.cells #[.int .i64 u.kind, .string u.name, .int .i64 u.sort, .slice Au u.kids.length cu] 24)).alloc (.cells #[.int .i64 u.kind, .string u.name, .int .i64 u.sort, .slice Au u.kids.length cu] 24)) := ((below1 (Nat.le_refl _) _).alloc (by simp) _).alloc (by simp; omega) _
    have HREP := Lib.hid (hrepu.below (hb.mono hBw)); clear hrep hrepu hrp
    have HB := Lib.hid hb; clear hb
    simp only [Tm.val]
    go_enter Tryd.func35, Tryd.ntmps35
    go_wp2_with fail
    refine bodyPost_ret (v := .tuple #[.agg #[.int .i64 u.kind, .string u.name, .int .i64 u.sort, .slice Au u.kids.length cu], .int .i64 0]) ?_ rfl ?_
    · simp [results, Tryd.results35, go_sem]
    refine ⟨HB.out, u, Au, cu, 0, rfl, ?_, .inr ⟨rfl, rfl⟩⟩
    exact RepP.mono (fun b h => ⟨.inl h, by have : b < B := h; have := HB.out.size; omega⟩) (fun q h => rfl) _ _ _ HREP.out
  | cons i r ih =>
    intro t A Au cap cu Ap cp w hBw ht hp hrep hrepu hrp
    obtain ⟨V, hV, hxt, hxu, hxz, hs3, hbV⟩ := boxes3 (hrep.go (Below.refl _ _) hBw) (hrepu.go (Below.refl _ _) hBw)
    have HRU := Lib.hid (hrepu.below (hbV.mono hBw))
    have HRT := Lib.hid (hrep.below (hbV.mono hBw))
    have HRP := Lib.hid (hrp.below (hbV.mono hBw)); clear hrp hrep hrepu
    have HBV := Lib.hid hbV; clear hbV
    have HXT := Lib.hid hxt; clear hxt
    have HXU := Lib.hid hxu; clear hxu
    have HXZ := Lib.hid hxz; clear hxz
    have HS3 := Lib.hid hs3; clear hs3
    have HT := Lib.hid ht; clear ht
    have HU := Lib.hid hu; clear hu
    have HV := Lib.hid hV; clear hV
    obtain ⟨a0, a1, a2, a3, a4⟩ := HXT.out.cells
    obtain ⟨u0, u1, u2, u3, u4⟩ := HXU.out.cells
    obtain ⟨r0, r1, r2, r3, r4⟩ := box_at HXZ.out
    simp only [Tm.kind, Tm.name, Tm.sort, Tm.kids, List.length_nil] at r0 r1 r2 r3
    simp only [Tm.val]
    go_enter Tryd.func35, Tryd.ntmps35
    have hbp : ∃ bp offp, Ap = some ⟨bp, offp, none⟩ ∧ bp < B ∧ V.cell? ⟨bp, offp, none⟩ = some (.int .i64 i) ∧ r.length + 1 ≤ cp := by
      obtain ⟨h1, -, h3⟩ := HRP.out
      rcases h3 with h3 | ⟨bp, offp, rfl, h4, h5⟩
      · cases h3
      · exact ⟨bp, offp, rfl, h4, h5 0 (by simp), by simpa using h1⟩
    obtain ⟨bp, offp, rfl, hbp1, hx, hcp⟩ := hbp
    have hne : ((r.length : Int) + 1 == 0) = false := by simp; omega
    simp only [List.length_cons] at hp ⊢
    by_cases hx0 : i < 0
    · have hn := Tm.kid_none (t := t) (.inl hx0)
      have hres : Tm.repl (i :: r) t u = none := by rw [Tm.repl_cons, hn]
      have HRES := Lib.hid hres; clear hres hn
      have d1 : decide (i < 0) = true := decide_eq_true hx0
      go_wp2_with fail
      rw [← HV.out]
      go_quiet (fail)
      have hz : ∀ o, (V.drewN nq).cell? o = V.cell? o := fun _ => rfl
      go_wp2_with fail
      refine bodyPost_ret (v := .tuple #[.agg #[.int .i64 0, .string ⟨#[]⟩, .int .i64 0, .slice none 0 0], .int .i64 7]) ?_ rfl ?_
      · simp [results, Tryd.results35, go_sem, r0, r1, r2, r3]
      refine ⟨below_set4 (HBV.out.trans ((Lay.refl _ _).drewN nq).below) (by omega), tZero, none, 0, 7, rfl, rep_zero _ _, .inl ⟨HRES.out, rfl, rfl, rfl⟩⟩
    · have d1 : decide (i < 0) = false := decide_eq_false hx0
      by_cases hx1 : (t.kids.length : Int) ≤ i
      · have hn := Tm.kid_none (t := t) (.inr hx1)
        have hres : Tm.repl (i :: r) t u = none := by rw [Tm.repl_cons, hn]
        have HRES := Lib.hid hres; clear hres hn
        have d2 : decide ((t.kids.length : Int) ≤ i) = true := decide_eq_true hx1
        go_wp2_with fail
        rw [← HV.out]
        go_quiet (fail)
        have hz : ∀ o, (V.drewN nq).cell? o = V.cell? o := fun _ => rfl
        go_wp2_with fail
        refine bodyPost_ret (v := .tuple #[.agg #[.int .i64 0, .string ⟨#[]⟩, .int .i64 0, .slice none 0 0], .int .i64 7]) ?_ rfl ?_
        · simp [results, Tryd.results35, go_sem, r0, r1, r2, r3]
        refine ⟨below_set4 (HBV.out.trans ((Lay.refl _ _).drewN nq).below) (by omega), tZero, none, 0, 7, rfl, rep_zero _ _, .inl ⟨HRES.out, rfl, rfl, rfl⟩⟩
      · have d2 : decide ((t.kids.length : Int) ≤ i) = false := decide_eq_false hx1
        have hxl : i.toNat < t.kids.length := by omega
        have hn := Tm.kid_some (t := t) (i := i) (by omega) (by omega)
        have hkids := HRT.out.kids.2.2
        rcases hkids with h0 | ⟨bk, off, rfl, hbk, hl⟩
        · rw [h0] at hxl; simp at hxl
        obtain ⟨C, ck, e0, e1, e2, e3, e5⟩ := hl.get i.toNat hxl
        have hvs : t.kids[i.toNat].size ≤ 1000000 := by have := Tm.kid_size (List.getElem_mem hxl); have := HT.out; omega
        have hres := Tm.repl_cons i r t u
        rw [hn] at hres
        obtain ⟨kd, hkd⟩ : ∃ k, k = t.kids[i.toNat] := ⟨_, rfl⟩
        rw [← hkd] at e0 e1 e2 e3 e5 hvs hres
        simp only at hres
        have x0 : 0 ≤ i := by omega
        have x1 : i < (t.kids.length : Int) := by omega
        have hwV := HBV.out.size
        have HIH : Hid (∀ Y, Below V.heap.size V Y → Calls Tryd.prog 35 #[.agg #[.int .i64 kd.kind, .string kd.name, .int .i64 kd.sort, .slice C kd.kids.length ck], .slice (if cp = 1 then some ⟨bp, offp, none⟩ else some ⟨bp, offp + 1, none⟩) r.length (cp - 1), .agg #[.int .i64 u.kind, .string u.name, .int .i64 u.sort, .slice Au u.kids.length cu]] Y (RreplOf Y B (Tm.repl r kd u))) := fun Y h =>
          ih kd C Au ck cu _ _ Y (by have := h.size; omega) hvs (by omega) (e5.below (h.mono (by omega))) (HRU.out.below (h.mono (by omega))) ((HRP.out.below (h.mono (by omega))).tail hcp)
        have j1 : (1 : Int) ≤ (r.length : Int) + 1 := by omega
        have HF : Hid (∀ Y, Below V.heap.size V Y → (Y.cell? ⟨w.heap.size, 0, none⟩ = some (.int .i64 t.kind) ∧ Y.cell? ⟨w.heap.size, 1, none⟩ = some (.string t.name) ∧ Y.cell? ⟨w.heap.size, 2, none⟩ = some (.int .i64 t.sort) ∧ Y.cell? ⟨w.heap.size, 3, none⟩ = some (.slice (some ⟨bk, off, none⟩) t.kids.length cap)) ∧
            (Y.cell? ⟨w.heap.size + 1, 0, none⟩ = some (.int .i64 u.kind) ∧ Y.cell? ⟨w.heap.size + 1, 1, none⟩ = some (.string u.name) ∧ Y.cell? ⟨w.heap.size + 1, 2, none⟩ = some (.int .i64 u.sort) ∧ Y.cell? ⟨w.heap.size + 1, 3, none⟩ = some (.slice Au u.kids.length cu)) ∧
            Y.cell? ⟨bp, offp, none⟩ = some (.int .i64 i) ∧ Y.cell? ⟨bk, off + i.toNat * 4, none⟩ = some (.int .i64 kd.kind) ∧ Y.cell? ⟨bk, off + i.toNat * 4 + 1, none⟩ = some (.string kd.name) ∧ Y.cell? ⟨bk, off + i.toNat * 4 + 2, none⟩ = some (.int .i64 kd.sort) ∧ Y.cell? ⟨bk, off + i.toNat * 4 + 3, none⟩ = some (.slice C kd.kids.length ck)) := fun Y h => by
          obtain ⟨h0, h1, h2, h3, -⟩ := (HXT.out.below h).cells
          obtain ⟨g0, g1, g2, g3, -⟩ := (HXU.out.below h).cells
          have hb1 : bk < V.heap.size := by omega
          exact ⟨⟨h0, h1, h2, h3⟩, ⟨g0, g1, g2, g3⟩, (h.cell (by show bp < _; omega)).trans hx, (h.cell hb1).trans e0, (h.cell hb1).trans e1, (h.cell hb1).trans e2, (h.cell hb1).trans e3⟩
        go_wp2_with fail
        rw [← HV.out]
        go_quiet (fail)
        have hS : Below V.heap.size V (V.drewN nq) := ((Lay.refl _ _).drewN nq).below
        have HRES := Lib.hid hres; clear hres hn hkd hl e0 e1 e2 e3 e5 hx a0 a1 a2 a3 a4 u0 u1 u2 u3 u4 r0 r1 r2 r3 r4
        generalize V.drewN nq = Z at *
        go_wp2_with fail
        have hS' := below_then hS (Lay.refl _ Z).drew.below hS.size
        have HS := Lib.hid hS'; clear hS' hS
        refine wp_region_mix (fun Y => Below V.heap.size V Y) 17 (.held 0 (.held 1 (.held 2 (.held 3 (.held 4 (.held 5 (.held 6 (.held 7 (.held 8 (.held 9 (.two 10 14 (.held 11 (.held 12 (.held 13 (.op 14 (.op 15 (.op 16 .nil)))))) (.op 10 (.held 11 (.held 12 (.held 13 (.op 15 (.op 16 .nil))))))))))))))))) mixed (by kernel_rfl) ?_
        refine mix_take (v := .pointer (some ⟨w.heap.size, 3, none⟩)) rfl rfl (fun _ _ _ h => h) HS.out (fun Y hY => by obtain ⟨⟨b0, b1, b2, b3⟩, ⟨c0, c1, c2, c3⟩, b4, b5, b6, b7, b8⟩ := HF.out Y hY; (try simp only [Act.put]); go_simp) ?_
        refine mix_take (v := .slice (some ⟨bk, off, none⟩) t.kids.length cap) rfl rfl (fun _ _ _ h => h) HS.out (fun Y hY => by obtain ⟨⟨b0, b1, b2, b3⟩, ⟨c0, c1, c2, c3⟩, b4, b5, b6, b7, b8⟩ := HF.out Y hY; (try simp only [Act.put]); go_simp) ?_
        refine mix_take (v := .slice (some ⟨bp, offp, none⟩) (r.length + 1) cp) rfl rfl (fun _ _ _ h => h) HS.out (fun Y hY => by obtain ⟨⟨b0, b1, b2, b3⟩, ⟨c0, c1, c2, c3⟩, b4, b5, b6, b7, b8⟩ := HF.out Y hY; (try simp only [Act.put]); go_simp) ?_
        refine mix_take (v := .pointer (some ⟨bp, offp, none⟩)) rfl rfl (fun _ _ _ h => h) HS.out (fun Y hY => by obtain ⟨⟨b0, b1, b2, b3⟩, ⟨c0, c1, c2, c3⟩, b4, b5, b6, b7, b8⟩ := HF.out Y hY; (try simp only [Act.put]); go_simp) ?_
        refine mix_take (v := .int .i64 i) rfl rfl (fun _ _ _ h => h) HS.out (fun Y hY => by obtain ⟨⟨b0, b1, b2, b3⟩, ⟨c0, c1, c2, c3⟩, b4, b5, b6, b7, b8⟩ := HF.out Y hY; (try simp only [Act.put]); go_simp) ?_
        refine mix_take (v := .pointer (some ⟨bk, off + i.toNat * 4, none⟩)) rfl rfl (fun _ _ _ h => h) HS.out (fun Y hY => by obtain ⟨⟨b0, b1, b2, b3⟩, ⟨c0, c1, c2, c3⟩, b4, b5, b6, b7, b8⟩ := HF.out Y hY; (try simp only [Act.put]); go_simp) ?_
        refine mix_take (v := .agg #[.int .i64 kd.kind, .string kd.name, .int .i64 kd.sort, .slice C kd.kids.length ck]) rfl rfl (fun _ _ _ h => h) HS.out (fun Y hY => by obtain ⟨⟨b0, b1, b2, b3⟩, ⟨c0, c1, c2, c3⟩, b4, b5, b6, b7, b8⟩ := HF.out Y hY; (try simp only [Act.put]); go_simp) ?_
        refine mix_take (v := .slice (some ⟨bp, offp, none⟩) (r.length + 1) cp) rfl rfl (fun _ _ _ h => h) HS.out (fun Y hY => by obtain ⟨⟨b0, b1, b2, b3⟩, ⟨c0, c1, c2, c3⟩, b4, b5, b6, b7, b8⟩ := HF.out Y hY; (try simp only [Act.put]); go_simp) ?_
        refine mix_take (v := .slice (if cp = 1 then some ⟨bp, offp, none⟩ else some ⟨bp, offp + 1, none⟩) r.length (cp - 1)) rfl rfl (fun _ _ _ h => h) HS.out (fun Y hY => by obtain ⟨⟨b0, b1, b2, b3⟩, ⟨c0, c1, c2, c3⟩, b4, b5, b6, b7, b8⟩ := HF.out Y hY; (try simp only [Act.put]); go_simp) ?_
        refine mix_take (v := .agg #[.int .i64 u.kind, .string u.name, .int .i64 u.sort, .slice Au u.kids.length cu]) rfl rfl (fun _ _ _ h => h) HS.out (fun Y hY => by obtain ⟨⟨b0, b1, b2, b3⟩, ⟨c0, c1, c2, c3⟩, b4, b5, b6, b7, b8⟩ := HF.out Y hY; (try simp only [Act.put]); go_simp) ?_
        simp only [Act.put, List.setIfInBounds_toArray]
        generalize (if cp = 1 then (some ⟨bp, offp, none⟩ : Option Addr) else some ⟨bp, offp + 1, none⟩) = Aq at *
        refine mix_two ?_ ?_
        · skip
          refine mix_op rfl rfl (fun K hK => ?_)
          go_wp2_with fail
          refine (HIH.out Z.drew HS.out).mono ?_
          rintro e y4 ⟨hb4, y, Ay, cy, ec, rfl, hry, hcase⟩
          have hS := below_then HS.out hb4 HS.out.size
          have HCASE := Lib.hid hcase; clear hcase
          clear HIH
          have hZsz := HS.out.size
          clear HS
          have HS := Lib.hid hS; clear hS hb4
          have hy' : RepP y4 (fun b => (b < B ∨ w.heap.size + 3 ≤ b) ∧ b < y4.heap.size) y Ay cy := RepP.mono (fun b ⟨h1, h2⟩ => ⟨h1.imp id (fun h => by have := HS3.out; have := hZsz; omega), h2⟩) (fun _ _ => rfl) _ _ _ hry
          have HR4 := Lib.hid hy'; clear hy' hry
          simp only [Tm.val]
          refine hK _ _ ⟨fun _ => HS.out, ?_⟩; clear hK K
          refine mix_take (v := .tuple #[.agg #[.int .i64 y.kind, .string y.name, .int .i64 y.sort, .slice Ay y.kids.length cy], .int .i64 ec]) rfl rfl (fun _ _ _ h => h) HS.out (fun Y hY => by obtain ⟨⟨b0, b1, b2, b3⟩, ⟨c0, c1, c2, c3⟩, b4, b5, b6, b7, b8⟩ := HF.out Y hY; (try simp only [Act.put]); go_simp) ?_
          refine mix_take (v := .agg #[.int .i64 y.kind, .string y.name, .int .i64 y.sort, .slice Ay y.kids.length cy]) rfl rfl (fun _ _ _ h => h) HS.out (fun Y hY => by obtain ⟨⟨b0, b1, b2, b3⟩, ⟨c0, c1, c2, c3⟩, b4, b5, b6, b7, b8⟩ := HF.out Y hY; (try simp only [Act.put]); go_simp) ?_
          refine mix_take (v := .int .i64 ec) rfl rfl (fun _ _ _ h => h) HS.out (fun Y hY => by obtain ⟨⟨b0, b1, b2, b3⟩, ⟨c0, c1, c2, c3⟩, b4, b5, b6, b7, b8⟩ := HF.out Y hY; (try simp only [Act.put]); go_simp) ?_
          simp only [Act.put, List.setIfInBounds_toArray]
          refine mix_op rfl rfl (fun K hK => ?_)
          go_wp2_with fail
          refine ⟨fun _ => HS.out.alloc HS.out.size _, ?_⟩
          refine mix_op rfl rfl (fun K hK => ?_)
          go_wp2_with fail
          have hbx := BoxT.new (show RepT y4 y4.heap.size y Ay cy from RepP.mono (fun b h => h.2) (fun _ _ => rfl) _ _ _ HR4.out)
          have hyE : RepP (y4.alloc (.cells #[.int .i64 y.kind, .string y.name, .int .i64 y.sort, .slice Ay y.kids.length cy] 24)) (fun b => (b < B ∨ w.heap.size + 3 ≤ b) ∧ b < (y4.alloc (.cells #[.int .i64 y.kind, .string y.name, .int .i64 y.sort, .slice Ay y.kids.length cy] 24)).heap.size) y Ay cy := RepP.mono (fun b ⟨h1, h2⟩ => ⟨h1, by simp; omega⟩) (fun q ⟨_, h2⟩ => (below1 (Nat.le_refl _) _).cell h2) _ _ _ HR4.out
          simp only [boxOf] at hbx
          have hs4 := HS.out.alloc HS.out.size (.cells #[.int .i64 y.kind, .string y.name, .int .i64 y.sort, .slice Ay y.kids.length cy] 24)
          obtain ⟨bx, hbx0⟩ : ∃ b, b = y4.heap.size := ⟨_, rfl⟩
          rw [← hbx0] at hbx
          rw [← hbx0]
          clear HS HR4 hbx0
          generalize y4.alloc (.cells #[.int .i64 y.kind, .string y.name, .int .i64 y.sort, .slice Ay y.kids.length cy] 24) = E at *
          have HS := Lib.hid hs4; clear hs4
          have HY := Lib.hid hyE; clear hyE
          have HBX := Lib.hid hbx; clear hbx
          refine ⟨fun _ => HS.out, ?_⟩
          refine mix_op rfl rfl (fun K hK => ?_)
          go_wp2_with fail
          refine ⟨fun _ => HS.out, mix_nil ?_⟩
          have hbE : Below w.heap.size w E := HBV.out.trans (HS.out.mono HBV.out.size)
          have hzE := (HS.out.block (w.heap.size + 1 + 1) (by have := HS3.out; omega)).trans HXZ.out
          obtain ⟨r0, r1, r2, r3, r4⟩ := box_at hzE
          simp only [Tm.kind, Tm.name, Tm.sort, Tm.kids, List.length_nil] at r0 r1 r2 r3
          have HBE := Lib.hid hbE; clear hbE
          have HZE := Lib.hid hzE; clear hzE
          obtain ⟨⟨b0, b1, b2, b3⟩, -, b4, -⟩ := HF.out E HS.out
          rcases HCASE.out with ⟨hc1, rfl, -, -⟩ | ⟨hc1, rfl⟩
          · skip
            have hres2 : Tm.repl (i :: r) t u = none := by rw [HRES.out, hc1]; rfl
            have HRES2 := Lib.hid hres2; clear hres2
            go_wp2_with fail
            refine bodyPost_ret (v := .tuple #[.agg #[.int .i64 0, .string ⟨#[]⟩, .int .i64 0, .slice none 0 0], .int .i64 7]) ?_ rfl ?_
            · simp [results, Tryd.results35, go_sem, r0, r1, r2, r3]
            exact ⟨below_set4 HBE.out (by omega), tZero, none, 0, 7, rfl, rep_zero _ _, .inl ⟨HRES2.out, rfl, rfl, rfl⟩⟩
          · skip
            have hres2 : Tm.repl (i :: r) t u = some (.mk t.kind t.name t.sort (t.kids.set i.toNat y)) := by rw [HRES.out, hc1]; rfl
            have HRES2 := Lib.hid hres2; clear hres2 hc1 HCASE
            have hEs : w.heap.size + 3 ≤ E.heap.size := by have := HS.out.size; have := HS3.out; omega
            have hl1 : w.heap.size < E.heap.size := by omega
            have hl2 : w.heap.size < E.heap.size + 1 := by omega
            obtain ⟨E1, hE1⟩ : ∃ X, X = E.alloc (.cells #[.int .i64 t.kind, .string t.name, .int .i64 t.sort, .slice (some ⟨bk, off, none⟩) t.kids.length cap] 24) := ⟨_, rfl⟩
            obtain ⟨E2, hE2⟩ : ∃ X, X = E1.alloc (.cells #[] 24) := ⟨_, rfl⟩
            have hs1 : E1.heap.size = E.heap.size + 1 := by rw [hE1]; simp
            have hs2 : E2.heap.size = E.heap.size + 1 + 1 := by rw [hE2]; simp [hs1]
            have hb1 : Below E.heap.size E E1 := by rw [hE1]; exact below1 (Nat.le_refl _) _
            have hb2 : Below E1.heap.size E1 E2 := by rw [hE2]; exact below1 (Nat.le_refl _) _
            have hb12 := below_then hb1 hb2 hb1.size
            have hrow0 : RowT E2 (E.heap.size + 1) (fun b => (b < B ∨ w.heap.size + 3 ≤ b) ∧ b < E.heap.size) (.slice (some ⟨E.heap.size + 1, 0, none⟩) 0 0) [] := by
              refine ⟨?_, by simp⟩
              have := World.ownsRow_lit (base := E.heap.size + 1) (e := 24) (size := 4) E1 #[] 0 (by omega) (by simp [maxLen]) rfl
              rw [hs1] at this
              rw [hE2]
              exact this
            have hLV : RepL E2 B t.kids bk off := by
              rcases HRT.out.kids.2.2 with h0 | ⟨bk', off', he, _, hl⟩
              · rw [h0]; rw [RepL, RepLP]; trivial
              · injection he with he
                injection he with e1 e2
                subst e1 e2
                exact hl.below (((HS.out.mono (by have := HBV.out.size; omega)).trans (hb12.mono (by omega)))) hbk
            obtain ⟨nits, hnm, hnc, hnr⟩ := RepLP.its t.kids bk off hLV
            have hnl : nits.length = t.kids.length := by rw [← hnm]; simp
            have hkl := Tm.kids_size t
            have hkt := HT.out
            obtain ⟨A2, c2, w2, hap, hrow2, hgr, hsome⟩ := hrow0.more (fun b h => by omega) (by omega) bk off cap t.kids.length nits hnl.symm hnc
              (fun x hx => RepP.mono (fun b h => ⟨.inl h, by have : b < B := h; omega⟩) (fun _ _ => rfl) _ _ _ (hnr x hx)) (by simp; omega)
            simp only [List.length_nil, Nat.zero_add, List.nil_append] at hap hrow2 hsome
            obtain ⟨g2, rfl⟩ := hsome (fun e => by rw [e] at hnl; simp at hnl; omega)
            have hbw2 : Below E.heap.size E w2 := below_of_grown hb12 (by omega) hgr (fun g hg => by have := (hrow0.lt g hg).1; omega)
            have hw2n : w2.heap[E.heap.size]? = some (.cells #[.int .i64 t.kind, .string t.name, .int .i64 t.sort, .slice (some ⟨bk, off, none⟩) t.kids.length cap] 24) := by
              rw [hgr.block E.heap.size (by omega) (fun e => by have := (hrow0.lt _ e.symm).1; omega), hb2.block _ (by omega), hE1]; exact heap_alloc_new _ _
            obtain ⟨Z2, hZ2⟩ : ∃ X, X = w2.setCell ⟨E.heap.size, 3, none⟩ (.slice (some ⟨g2, 0, none⟩) t.kids.length c2) := ⟨_, rfl⟩
            have hZn : Z2.heap[E.heap.size]? = some (.cells #[.int .i64 t.kind, .string t.name, .int .i64 t.sort, .slice (some ⟨g2, 0, none⟩) t.kids.length c2] 24) := by rw [hZ2]; exact heap_set3 hw2n
            have hrowZ : RowT Z2 (E.heap.size + 1) (fun b => (b < B ∨ w.heap.size + 3 ≤ b) ∧ b < E.heap.size) (.slice (some ⟨g2, 0, none⟩) t.kids.length c2) nits := by rw [hZ2]; exact hrow2.setCell (by simp) (by simp) _
            have hEZ : Below E.heap.size E Z2 := by rw [hZ2]; exact hbw2.setCell (Nat.le_refl _) _
            have hg2 := (hrowZ.lt g2 rfl)
            have hnit : i.toNat < nits.length := by rw [hnl]; exact hxl
            have hbxZ := HBX.out.below hEZ
            obtain ⟨z0, z1, z2, z3, z4⟩ := box_at hw2n
            rw [hE2, hE1] at hap
            clear hE1 hE2 hs1 hs2 hb1 hb2 hb12 hrow0 hLV hnc hnr hrow2 hgr hsome hbw2
            have HZN := Lib.hid hZn; clear hZn
            have HROWZ := Lib.hid hrowZ; clear hrowZ
            have HEZ := Lib.hid hEZ; clear hEZ
            have HG2 := Lib.hid hg2; clear hg2
            have HBXZ := Lib.hid hbxZ; clear hbxZ
            have HNL := Lib.hid hnl; clear hnl
            have HNM := Lib.hid hnm; clear hnm
            have HW2N := Lib.hid hw2n; clear hw2n
            have HZ2 := Lib.hid hZ2; clear hZ2
            go_wp2_with (at_builtin; refine wpList_run_append rfl _ _ rfl rfl rfl hap ?_)
            rw [← HZ2.out]
            clear z0 z1 z2 z3 z4 b0 b1 b2 b3 r0 r1 r2 r3 r4 hap
            obtain ⟨z0, z1, z2, z3, z4⟩ := box_at HZN.out
            have b4' : Z2.cell? ⟨bp, offp, none⟩ = some (.int .i64 i) := (HEZ.out.cell (by show bp < _; omega)).trans b4
            obtain ⟨y0, y1, y2, y3, -⟩ := HBXZ.out.cells
            obtain ⟨n0, n1, n2, n3, n4⟩ := HROWZ.out.slot HNL.out.symm i.toNat hnit
            obtain ⟨W4a, hW4, s0, s1, s2, s3, hoth, hsz4, hblk4, hbel4⟩ := set4_at (W := Z2) (b := g2) (o := i.toNat * 4) (.int .i64 y.kind) (.string y.name) (.int .i64 y.sort) (.slice Ay y.kids.length cy) n0 n1 n2 n3
            have hg2a := HG2.out.1
            have hrow4 : RowT W4a.drew (E.heap.size + 1) (fun b => (b < B ∨ w.heap.size + 3 ≤ b) ∧ b < E.heap.size) (.slice (some ⟨g2, 0, none⟩) t.kids.length c2) (nits.set i.toNat (y, Ay, cy)) := by
              rw [hW4]
              exact (HROWZ.out.set HNL.out.symm i.toNat (by omega) (y, Ay, cy) (show RepP Z2 (fun b => ((b < B ∨ w.heap.size + 3 ≤ b) ∧ b < E.heap.size) ∧ b < Z2.heap.size ∧ g2 ≠ b) y Ay cy from
                RepP.mono (w := E) (w' := Z2) (P := fun b => (b < B ∨ w.heap.size + 3 ≤ b) ∧ b < E.heap.size) (fun b h => ⟨h, by have := HEZ.out.size; omega, by omega⟩) (fun q h => HEZ.out.cell h.2) _ _ _ HY.out)).drew
            have hW4n : W4a.drew.heap[E.heap.size]? = some (.cells #[.int .i64 t.kind, .string t.name, .int .i64 t.sort, .slice (some ⟨g2, 0, none⟩) t.kids.length c2] 24) := (hblk4 _ (by omega)).trans HZN.out
            have hW4z : W4a.drew.heap[w.heap.size + 1 + 1]? = some (boxOf (.mk 0 ⟨#[]⟩ 0 []) none 0) := (hblk4 _ (by omega)).trans ((HEZ.out.block _ (by omega)).trans HZE.out)
            have hbW4 : Below w.heap.size w W4a.drew := (hbel4 _ (by omega) _ (HBE.out.trans (HEZ.out.mono HBE.out.size))).drew
            have HW4N := Lib.hid hW4n; clear hW4n
            have HW4Z := Lib.hid hW4z; clear hW4z
            have HBW4 := Lib.hid hbW4; clear hbW4
            have HROW4 := Lib.hid hrow4; clear hrow4
            have HW4 := Lib.hid hW4; clear hW4 s0 s1 s2 s3 hoth hsz4 hblk4 hbel4
            refine wp_region_mix (fun Y => Y = Z2.drew) 7 (.held 0 (.held 1 (.held 2 (.held 3 (.held 4 (.held 5 (.held 6 (.op 7 .nil)))))))) mixed (by kernel_rfl) ?_
            refine mix_take (v := .pointer (some ⟨E.heap.size, 3, none⟩)) rfl rfl (fun _ _ _ h => h) rfl (fun Y hY => by subst hY; (try simp only [Act.put]); go_simp) ?_
            refine mix_take (v := .slice (some ⟨g2, 0, none⟩) t.kids.length c2) rfl rfl (fun _ _ _ h => h) rfl (fun Y hY => by subst hY; (try simp only [Act.put]); go_simp) ?_
            refine mix_take (v := .slice (some ⟨bp, offp, none⟩) (r.length + 1) cp) rfl rfl (fun _ _ _ h => h) rfl (fun Y hY => by subst hY; (try simp only [Act.put]); go_simp) ?_
            refine mix_take (v := .pointer (some ⟨bp, offp, none⟩)) rfl rfl (fun _ _ _ h => h) rfl (fun Y hY => by subst hY; (try simp only [Act.put]); go_simp) ?_
            refine mix_take (v := .int .i64 i) rfl rfl (fun _ _ _ h => h) rfl (fun Y hY => by subst hY; (try simp only [Act.put]); go_simp) ?_
            refine mix_take (v := .agg #[.int .i64 y.kind, .string y.name, .int .i64 y.sort, .slice Ay y.kids.length cy]) rfl rfl (fun _ _ _ h => h) rfl (fun Y hY => by subst hY; (try simp only [Act.put]); go_simp) ?_
            refine mix_take (v := .pointer (some ⟨g2, i.toNat * 4, none⟩)) rfl rfl (fun _ _ _ h => h) rfl (fun Y hY => by subst hY; (try simp only [Act.put]); go_simp) ?_
            simp only [Act.put, List.setIfInBounds_toArray]
            refine mix_op rfl rfl (fun K hK => ?_)
            go_wp2_with fail
            refine ⟨fun h => absurd h (by decide), mix_nil ?_⟩
            rw [← HW4.out]
            generalize W4a.drew = W4 at *
            clear z0 z1 z2 z3 z4 b4 b4' y0 y1 y2 y3 n0 n1 n2 n3 n4
            obtain ⟨z0, z1, z2, z3, z4⟩ := box_at HW4N.out
            obtain ⟨r0, r1, r2, r3, r4⟩ := box_at HW4Z.out
            simp only [Tm.kind, Tm.name, Tm.sort, Tm.kids, List.length_nil] at r0 r1 r2 r3
            go_wp2_with fail
            refine bodyPost_ret (v := .tuple #[.agg #[.int .i64 t.kind, .string t.name, .int .i64 t.sort, .slice (some ⟨g2, 0, none⟩) t.kids.length c2], .int .i64 0]) ?_ rfl ?_
            · simp [results, Tryd.results35, go_sem, r0, r1, r2, r3]
            have hws4 := HBW4.out.size
            refine ⟨below_set4 HBW4.out (by omega), .mk t.kind t.name t.sort (t.kids.set i.toNat y), some ⟨g2, 0, none⟩, c2, 0, by simp [Tm.val, Tm.kind, Tm.name, Tm.sort, Tm.kids], ?_, .inr ⟨HRES2.out, rfl⟩⟩
            obtain ⟨A', c', he, hS4⟩ := HROW4.out.toS (P := fun b => (b < B ∨ w.heap.size + 3 ≤ b) ∧ b < W4.heap.size) (fun b h h2 => ⟨h.1, h2⟩) (fun b h h2 => ⟨by omega, h2⟩)
            injection he with e1 e2 e3
            subst e1 e3
            have hmap : (nits.set i.toNat (y, Ay, cy)).map (·.1) = t.kids.set i.toNat y := by rw [List.map_set, HNM.out]
            rw [hmap] at hS4
            rw [RepP_mk]
            refine ⟨(show t.name.size ≤ maxLen from HRT.out.name), ?_⟩
            exact RepS.mono (fun b ⟨h1, h2⟩ => ⟨h1.imp id (fun h => by omega), by simpa [World.setCell] using h2⟩) (fun q ⟨h1, _⟩ => World.cell?_of_block (heap_set4_other (by omega))) hS4
        · skip
          refine mix_op rfl rfl (fun K hK => ?_)
          go_wp2_with fail
          refine ⟨fun _ => HS.out.alloc HS.out.size _, ?_⟩
          obtain ⟨X, hX⟩ : ∃ X, X = (Z.alloc (.cells #[.int .i64 0, .string ⟨#[]⟩, .int .i64 0, .slice none 0 0] 24)).drew := ⟨_, rfl⟩
          have hXn : X.heap[Z.heap.size]? = some (.cells #[.int .i64 0, .string ⟨#[]⟩, .int .i64 0, .slice none 0 0] 24) := by rw [hX]; exact heap_alloc_new Z _
          have hXs : X.heap.size = Z.heap.size + 1 := by rw [hX]; simp
          have hS : Below V.heap.size V X := by rw [hX]; exact HS.out.alloc HS.out.size _
          have hZV : V.heap.size ≤ Z.heap.size := HS.out.size
          rw [← hX]
          clear HS hX
          have HS := Lib.hid hS; clear hS
          have HXN := Lib.hid hXn; clear hXn
          have HXS := Lib.hid hXs; clear hXs
          refine mix_op rfl rfl (fun K hK => ?_)
          go_wp2_with fail
          refine (HIH.out X HS.out).mono ?_
          rintro e y4 ⟨hb4, y, Ay, cy, ec, rfl, hry, hcase⟩
          have hS := below_then HS.out hb4 HS.out.size
          have HCASE := Lib.hid hcase; clear hcase
          clear HIH
          have hYn := (hb4.block Z.heap.size (by rw [HXS.out]; omega)).trans HXN.out
          have hy' : RepP y4 (fun b => (b < B ∨ Z.heap.size + 1 ≤ b) ∧ b < y4.heap.size) y Ay cy := by rw [← HXS.out]; exact hry
          clear HS hry hb4 HXN HXS
          have HS := Lib.hid hS; clear hS
          have HR4 := Lib.hid hy'; clear hy'
          obtain ⟨z0, z1, z2, z3, z4⟩ := box_at hYn
          have HYN := Lib.hid hYn; clear hYn
          simp only [Tm.val]
          refine hK _ _ ⟨fun _ => HS.out, ?_⟩; clear hK K
          refine mix_take (v := .tuple #[.agg #[.int .i64 y.kind, .string y.name, .int .i64 y.sort, .slice Ay y.kids.length cy], .int .i64 ec]) rfl rfl (fun _ _ _ h => h) HS.out (fun Y hY => by obtain ⟨⟨b0, b1, b2, b3⟩, ⟨c0, c1, c2, c3⟩, b4, b5, b6, b7, b8⟩ := HF.out Y hY; (try simp only [Act.put]); go_simp) ?_
          refine mix_take (v := .agg #[.int .i64 y.kind, .string y.name, .int .i64 y.sort, .slice Ay y.kids.length cy]) rfl rfl (fun _ _ _ h => h) HS.out (fun Y hY => by obtain ⟨⟨b0, b1, b2, b3⟩, ⟨c0, c1, c2, c3⟩, b4, b5, b6, b7, b8⟩ := HF.out Y hY; (try simp only [Act.put]); go_simp) ?_
          refine mix_take (v := .int .i64 ec) rfl rfl (fun _ _ _ h => h) HS.out (fun Y hY => by obtain ⟨⟨b0, b1, b2, b3⟩, ⟨c0, c1, c2, c3⟩, b4, b5, b6, b7, b8⟩ := HF.out Y hY; (try simp only [Act.put]); go_simp) ?_
          simp only [Act.put, List.setIfInBounds_toArray]
          have hE4 : BoxT ((((y4.setCell ⟨Z.heap.size, 0, none⟩ (.int .i64 y.kind)).setCell ⟨Z.heap.size, 1, none⟩ (.string y.name)).setCell ⟨Z.heap.size, 2, none⟩ (.int .i64 y.sort)).setCell ⟨Z.heap.size, 3, none⟩ (.slice Ay y.kids.length cy)) Z.heap.size y Ay cy :=
            ⟨heap_set4 HYN.out, RepP.mono (fun b ⟨_, h2⟩ => by simpa [World.setCell] using h2) (fun q ⟨h1, _⟩ => World.cell?_of_block (heap_set4_other (by have := HBV.out.size; omega))) _ _ _ HR4.out⟩
          have hY4 : RepP ((((y4.setCell ⟨Z.heap.size, 0, none⟩ (.int .i64 y.kind)).setCell ⟨Z.heap.size, 1, none⟩ (.string y.name)).setCell ⟨Z.heap.size, 2, none⟩ (.int .i64 y.sort)).setCell ⟨Z.heap.size, 3, none⟩ (.slice Ay y.kids.length cy)) (fun b => (b < B ∨ w.heap.size + 3 ≤ b) ∧ b < ((((y4.setCell ⟨Z.heap.size, 0, none⟩ (.int .i64 y.kind)).setCell ⟨Z.heap.size, 1, none⟩ (.string y.name)).setCell ⟨Z.heap.size, 2, none⟩ (.int .i64 y.sort)).setCell ⟨Z.heap.size, 3, none⟩ (.slice Ay y.kids.length cy)).heap.size) y Ay cy :=
            RepP.mono (fun b ⟨h1, h2⟩ => ⟨h1.imp id (fun h => by have := HS3.out; omega), by simpa [World.setCell] using h2⟩) (fun q ⟨h1, _⟩ => World.cell?_of_block (heap_set4_other (by have := HBV.out.size; omega))) _ _ _ HR4.out
          have hS4 : Below V.heap.size V ((((y4.setCell ⟨Z.heap.size, 0, none⟩ (.int .i64 y.kind)).setCell ⟨Z.heap.size, 1, none⟩ (.string y.name)).setCell ⟨Z.heap.size, 2, none⟩ (.int .i64 y.sort)).setCell ⟨Z.heap.size, 3, none⟩ (.slice Ay y.kids.length cy)) := below_set4 HS.out hZV
          have HE4 := Lib.hid hE4; clear hE4
          have HY4 := Lib.hid hY4; clear hY4
          have HS4 := Lib.hid hS4; clear hS4
          clear HS HR4 HYN
          refine mix_op rfl rfl (fun K hK => ?_)
          go_wp2_with fail
          have hbx := HE4.out
          have hs4 := HS4.out
          have hy4 := HY4.out
          clear HE4 HS4 HY4 z0 z1 z2 z3 z4
          generalize ((((y4.setCell ⟨Z.heap.size, 0, none⟩ (.int .i64 y.kind)).setCell ⟨Z.heap.size, 1, none⟩ (.string y.name)).setCell ⟨Z.heap.size, 2, none⟩ (.int .i64 y.sort)).setCell ⟨Z.heap.size, 3, none⟩ (.slice Ay y.kids.length cy)) = E at *
          have HS := Lib.hid hs4; clear hs4
          have HY := Lib.hid hy4; clear hy4
          have HBX := Lib.hid hbx; clear hbx
          refine ⟨fun _ => HS.out, ?_⟩
          refine mix_op rfl rfl (fun K hK => ?_)
          go_wp2_with fail
          refine ⟨fun _ => HS.out, mix_nil ?_⟩
          have hbE : Below w.heap.size w E := HBV.out.trans (HS.out.mono HBV.out.size)
          have hzE := (HS.out.block (w.heap.size + 1 + 1) (by have := HS3.out; omega)).trans HXZ.out
          obtain ⟨r0, r1, r2, r3, r4⟩ := box_at hzE
          simp only [Tm.kind, Tm.name, Tm.sort, Tm.kids, List.length_nil] at r0 r1 r2 r3
          have HBE := Lib.hid hbE; clear hbE
          have HZE := Lib.hid hzE; clear hzE
          obtain ⟨⟨b0, b1, b2, b3⟩, -, b4, -⟩ := HF.out E HS.out
          rcases HCASE.out with ⟨hc1, rfl, -, -⟩ | ⟨hc1, rfl⟩
          · skip
            have hres2 : Tm.repl (i :: r) t u = none := by rw [HRES.out, hc1]; rfl
            have HRES2 := Lib.hid hres2; clear hres2
            go_wp2_with fail
            refine bodyPost_ret (v := .tuple #[.agg #[.int .i64 0, .string ⟨#[]⟩, .int .i64 0, .slice none 0 0], .int .i64 7]) ?_ rfl ?_
            · simp [results, Tryd.results35, go_sem, r0, r1, r2, r3]
            exact ⟨below_set4 HBE.out (by omega), tZero, none, 0, 7, rfl, rep_zero _ _, .inl ⟨HRES2.out, rfl, rfl, rfl⟩⟩
          · skip
            have hres2 : Tm.repl (i :: r) t u = some (.mk t.kind t.name t.sort (t.kids.set i.toNat y)) := by rw [HRES.out, hc1]; rfl
            have HRES2 := Lib.hid hres2; clear hres2 hc1 HCASE
            have hEs : w.heap.size + 3 ≤ E.heap.size := by have := HS.out.size; have := HS3.out; omega
            have hl1 : w.heap.size < E.heap.size := by omega
            have hl2 : w.heap.size < E.heap.size + 1 := by omega
            obtain ⟨E1, hE1⟩ : ∃ X, X = E.alloc (.cells #[.int .i64 t.kind, .string t.name, .int .i64 t.sort, .slice (some ⟨bk, off, none⟩) t.kids.length cap] 24) := ⟨_, rfl⟩
            obtain ⟨E2, hE2⟩ : ∃ X, X = E1.alloc (.cells #[] 24) := ⟨_, rfl⟩
            have hs1 : E1.heap.size = E.heap.size + 1 := by rw [hE1]; simp
            have hs2 : E2.heap.size = E.heap.size + 1 + 1 := by rw [hE2]; simp [hs1]
            have hb1 : Below E.heap.size E E1 := by rw [hE1]; exact below1 (Nat.le_refl _) _
            have hb2 : Below E1.heap.size E1 E2 := by rw [hE2]; exact below1 (Nat.le_refl _) _
            have hb12 := below_then hb1 hb2 hb1.size
            have hrow0 : RowT E2 (E.heap.size + 1) (fun b => (b < B ∨ w.heap.size + 3 ≤ b) ∧ b < E.heap.size) (.slice (some ⟨E.heap.size + 1, 0, none⟩) 0 0) [] := by
              refine ⟨?_, by simp⟩
              have := World.ownsRow_lit (base := E.heap.size + 1) (e := 24) (size := 4) E1 #[] 0 (by omega) (by simp [maxLen]) rfl
              rw [hs1] at this
              rw [hE2]
              exact this
            have hLV : RepL E2 B t.kids bk off := by
              rcases HRT.out.kids.2.2 with h0 | ⟨bk', off', he, _, hl⟩
              · rw [h0]; rw [RepL, RepLP]; trivial
              · injection he with he
                injection he with e1 e2
                subst e1 e2
                exact hl.below (((HS.out.mono (by have := HBV.out.size; omega)).trans (hb12.mono (by omega)))) hbk
            obtain ⟨nits, hnm, hnc, hnr⟩ := RepLP.its t.kids bk off hLV
            have hnl : nits.length = t.kids.length := by rw [← hnm]; simp
            have hkl := Tm.kids_size t
            have hkt := HT.out
            obtain ⟨A2, c2, w2, hap, hrow2, hgr, hsome⟩ := hrow0.more (fun b h => by omega) (by omega) bk off cap t.kids.length nits hnl.symm hnc
              (fun x hx => RepP.mono (fun b h => ⟨.inl h, by have : b < B := h; omega⟩) (fun _ _ => rfl) _ _ _ (hnr x hx)) (by simp; omega)
            simp only [List.length_nil, Nat.zero_add, List.nil_append] at hap hrow2 hsome
            obtain ⟨g2, rfl⟩ := hsome (fun e => by rw [e] at hnl; simp at hnl; omega)
            have hbw2 : Below E.heap.size E w2 := below_of_grown hb12 (by omega) hgr (fun g hg => by have := (hrow0.lt g hg).1; omega)
            have hw2n : w2.heap[E.heap.size]? = some (.cells #[.int .i64 t.kind, .string t.name, .int .i64 t.sort, .slice (some ⟨bk, off, none⟩) t.kids.length cap] 24) := by
              rw [hgr.block E.heap.size (by omega) (fun e => by have := (hrow0.lt _ e.symm).1; omega), hb2.block _ (by omega), hE1]; exact heap_alloc_new _ _
            obtain ⟨Z2, hZ2⟩ : ∃ X, X = w2.setCell ⟨E.heap.size, 3, none⟩ (.slice (some ⟨g2, 0, none⟩) t.kids.length c2) := ⟨_, rfl⟩
            have hZn : Z2.heap[E.heap.size]? = some (.cells #[.int .i64 t.kind, .string t.name, .int .i64 t.sort, .slice (some ⟨g2, 0, none⟩) t.kids.length c2] 24) := by rw [hZ2]; exact heap_set3 hw2n
            have hrowZ : RowT Z2 (E.heap.size + 1) (fun b => (b < B ∨ w.heap.size + 3 ≤ b) ∧ b < E.heap.size) (.slice (some ⟨g2, 0, none⟩) t.kids.length c2) nits := by rw [hZ2]; exact hrow2.setCell (by simp) (by simp) _
            have hEZ : Below E.heap.size E Z2 := by rw [hZ2]; exact hbw2.setCell (Nat.le_refl _) _
            have hg2 := (hrowZ.lt g2 rfl)
            have hnit : i.toNat < nits.length := by rw [hnl]; exact hxl
            have hbxZ := HBX.out.below hEZ
            obtain ⟨z0, z1, z2, z3, z4⟩ := box_at hw2n
            rw [hE2, hE1] at hap
            clear hE1 hE2 hs1 hs2 hb1 hb2 hb12 hrow0 hLV hnc hnr hrow2 hgr hsome hbw2
            have HZN := Lib.hid hZn; clear hZn
            have HROWZ := Lib.hid hrowZ; clear hrowZ
            have HEZ := Lib.hid hEZ; clear hEZ
            have HG2 := Lib.hid hg2; clear hg2
            have HBXZ := Lib.hid hbxZ; clear hbxZ
            have HNL := Lib.hid hnl; clear hnl
            have HNM := Lib.hid hnm; clear hnm
            have HW2N := Lib.hid hw2n; clear hw2n
            have HZ2 := Lib.hid hZ2; clear hZ2
            go_wp2_with (at_builtin; refine wpList_run_append rfl _ _ rfl rfl rfl hap ?_)
            rw [← HZ2.out]
            clear z0 z1 z2 z3 z4 b0 b1 b2 b3 r0 r1 r2 r3 r4 hap
            obtain ⟨z0, z1, z2, z3, z4⟩ := box_at HZN.out
            have b4' : Z2.cell? ⟨bp, offp, none⟩ = some (.int .i64 i) := (HEZ.out.cell (by show bp < _; omega)).trans b4
            obtain ⟨y0, y1, y2, y3, -⟩ := HBXZ.out.cells
            obtain ⟨n0, n1, n2, n3, n4⟩ := HROWZ.out.slot HNL.out.symm i.toNat hnit
            obtain ⟨W4a, hW4, s0, s1, s2, s3, hoth, hsz4, hblk4, hbel4⟩ := set4_at (W := Z2) (b := g2) (o := i.toNat * 4) (.int .i64 y.kind) (.string y.name) (.int .i64 y.sort) (.slice Ay y.kids.length cy) n0 n1 n2 n3
            have hg2a := HG2.out.1
            have hrow4 : RowT W4a.drew (E.heap.size + 1) (fun b => (b < B ∨ w.heap.size + 3 ≤ b) ∧ b < E.heap.size) (.slice (some ⟨g2, 0, none⟩) t.kids.length c2) (nits.set i.toNat (y, Ay, cy)) := by
              rw [hW4]
              exact (HROWZ.out.set HNL.out.symm i.toNat (by omega) (y, Ay, cy) (show RepP Z2 (fun b => ((b < B ∨ w.heap.size + 3 ≤ b) ∧ b < E.heap.size) ∧ b < Z2.heap.size ∧ g2 ≠ b) y Ay cy from
                RepP.mono (w := E) (w' := Z2) (P := fun b => (b < B ∨ w.heap.size + 3 ≤ b) ∧ b < E.heap.size) (fun b h => ⟨h, by have := HEZ.out.size; omega, by omega⟩) (fun q h => HEZ.out.cell h.2) _ _ _ HY.out)).drew
            have hW4n : W4a.drew.heap[E.heap.size]? = some (.cells #[.int .i64 t.kind, .string t.name, .int .i64 t.sort, .slice (some ⟨g2, 0, none⟩) t.kids.length c2] 24) := (hblk4 _ (by omega)).trans HZN.out
            have hW4z : W4a.drew.heap[w.heap.size + 1 + 1]? = some (boxOf (.mk 0 ⟨#[]⟩ 0 []) none 0) := (hblk4 _ (by omega)).trans ((HEZ.out.block _ (by omega)).trans HZE.out)
            have hbW4 : Below w.heap.size w W4a.drew := (hbel4 _ (by omega) _ (HBE.out.trans (HEZ.out.mono HBE.out.size))).drew
            have HW4N := Lib.hid hW4n; clear hW4n
            have HW4Z := Lib.hid hW4z; clear hW4z
            have HBW4 := Lib.hid hbW4; clear hbW4
            have HROW4 := Lib.hid hrow4; clear hrow4
            have HW4 := Lib.hid hW4; clear hW4 s0 s1 s2 s3 hoth hsz4 hblk4 hbel4
            refine wp_region_mix (fun Y => Y = Z2.drew) 7 (.held 0 (.held 1 (.held 2 (.held 3 (.held 4 (.held 5 (.held 6 (.op 7 .nil)))))))) mixed (by kernel_rfl) ?_
            refine mix_take (v := .pointer (some ⟨E.heap.size, 3, none⟩)) rfl rfl (fun _ _ _ h => h) rfl (fun Y hY => by subst hY; (try simp only [Act.put]); go_simp) ?_
            refine mix_take (v := .slice (some ⟨g2, 0, none⟩) t.kids.length c2) rfl rfl (fun _ _ _ h => h) rfl (fun Y hY => by subst hY; (try simp only [Act.put]); go_simp) ?_
            refine mix_take (v := .slice (some ⟨bp, offp, none⟩) (r.length + 1) cp) rfl rfl (fun _ _ _ h => h) rfl (fun Y hY => by subst hY; (try simp only [Act.put]); go_simp) ?_
            refine mix_take (v := .pointer (some ⟨bp, offp, none⟩)) rfl rfl (fun _ _ _ h => h) rfl (fun Y hY => by subst hY; (try simp only [Act.put]); go_simp) ?_
            refine mix_take (v := .int .i64 i) rfl rfl (fun _ _ _ h => h) rfl (fun Y hY => by subst hY; (try simp only [Act.put]); go_simp) ?_
            refine mix_take (v := .agg #[.int .i64 y.kind, .string y.name, .int .i64 y.sort, .slice Ay y.kids.length cy]) rfl rfl (fun _ _ _ h => h) rfl (fun Y hY => by subst hY; (try simp only [Act.put]); go_simp) ?_
            refine mix_take (v := .pointer (some ⟨g2, i.toNat * 4, none⟩)) rfl rfl (fun _ _ _ h => h) rfl (fun Y hY => by subst hY; (try simp only [Act.put]); go_simp) ?_
            simp only [Act.put, List.setIfInBounds_toArray]
            refine mix_op rfl rfl (fun K hK => ?_)
            go_wp2_with fail
            refine ⟨fun h => absurd h (by decide), mix_nil ?_⟩
            rw [← HW4.out]
            generalize W4a.drew = W4 at *
            clear z0 z1 z2 z3 z4 b4 b4' y0 y1 y2 y3 n0 n1 n2 n3 n4
            obtain ⟨z0, z1, z2, z3, z4⟩ := box_at HW4N.out
            obtain ⟨r0, r1, r2, r3, r4⟩ := box_at HW4Z.out
            simp only [Tm.kind, Tm.name, Tm.sort, Tm.kids, List.length_nil] at r0 r1 r2 r3
            go_wp2_with fail
            refine bodyPost_ret (v := .tuple #[.agg #[.int .i64 t.kind, .string t.name, .int .i64 t.sort, .slice (some ⟨g2, 0, none⟩) t.kids.length c2], .int .i64 0]) ?_ rfl ?_
            · simp [results, Tryd.results35, go_sem, r0, r1, r2, r3]
            have hws4 := HBW4.out.size
            refine ⟨below_set4 HBW4.out (by omega), .mk t.kind t.name t.sort (t.kids.set i.toNat y), some ⟨g2, 0, none⟩, c2, 0, by simp [Tm.val, Tm.kind, Tm.name, Tm.sort, Tm.kids], ?_, .inr ⟨HRES2.out, rfl⟩⟩
            obtain ⟨A', c', he, hS4⟩ := HROW4.out.toS (P := fun b => (b < B ∨ w.heap.size + 3 ≤ b) ∧ b < W4.heap.size) (fun b h h2 => ⟨h.1, h2⟩) (fun b h h2 => ⟨by omega, h2⟩)
            injection he with e1 e2 e3
            subst e1 e3
            have hmap : (nits.set i.toNat (y, Ay, cy)).map (·.1) = t.kids.set i.toNat y := by rw [List.map_set, HNM.out]
            rw [hmap] at hS4
            rw [RepP_mk]
            refine ⟨(show t.name.size ≤ maxLen from HRT.out.name), ?_⟩
            exact RepS.mono (fun b ⟨h1, h2⟩ => ⟨h1.imp id (fun h => by omega), by simpa [World.setCell] using h2⟩) (fun q ⟨h1, _⟩ => World.cell?_of_block (heap_set4_other (by omega))) hS4
end Go.Proofs.YtbgkabgbgbebaaaDoor
