/- The law TermReplace, walked. -/
import Derived.Test.YtbgkabgbgbebaaaDoorRreplace
import Derived.Test.YtbgkabgbgbebaaaDoorPosLaw
namespace Go.Proofs.YtbgkabgbgbebaaaDoor
open Go.RowKit Go.Sort

/-- A region, and what stands behind it in whatever order. -/
theorem region_cut {P : Program} {c : Code} {Q : Exit → Act → World → Prop} {a : Act} {w : World} (R : Act → Act → World → Prop) (h : c.wp P (fun e a' w' => e = .normal ∧ R a a' w') a w)
    (hr : ∀ a' w', R a a' w' → Q .normal a' w') : c.wp P Q a w :=
  Code.wp_mono (fun e a' w' ⟨h1, h2⟩ => by subst h1; exact hr a' w' h2) h

def ecOf (r : Option Tm) : Int := match r with
  | some _ => 0
  | none => 7
/-- What all four functions return: a term and an error. -/
def Pair (w : World) (y : Tm) (ec : Int) (e : Ending) (w' : World) : Prop :=
  ∃ A c, e = .returned (.tuple #[.agg #[.int .i64 y.kind, .string y.name, .int .i64 y.sort, .slice A y.kids.length c], .int .i64 ec]) ∧ RepT w' w'.heap.size y A c ∧ Below w.heap.size w w'
theorem AtOf.pair {w : World} {r : Option Tm} {e : Ending} {w' : World} (h : AtOf w r e w') : Pair w (r.getD tZero) (ecOf r) e w' := by
  obtain ⟨hb, h⟩ := h
  cases r with
  | none => exact ⟨none, 0, h, rep_zero _ _, hb⟩
  | some y =>
    obtain ⟨A, c, h1, h2⟩ := h
    exact ⟨A, c, h1, RepP.mono (fun _ h => h.2) (fun _ _ => rfl) _ _ _ h2, hb⟩
/-- .. in new memory -/
def PairF (w : World) (y : Tm) (ec : Int) (e : Ending) (w' : World) : Prop :=
  ∃ A c, e = .returned (.tuple #[.agg #[.int .i64 y.kind, .string y.name, .int .i64 y.sort, .slice A y.kids.length c], .int .i64 ec]) ∧ RepP w' (fun b => w.heap.size ≤ b ∧ b < w'.heap.size) y A c ∧ Below w.heap.size w w'
theorem AtOf.pairF {w : World} {r : Option Tm} {e : Ending} {w' : World} (h : AtOf w r e w') : PairF w (r.getD tZero) (ecOf r) e w' := by
  obtain ⟨hb, h⟩ := h
  cases r with
  | none => exact ⟨none, 0, h, rep_zero _ _, hb⟩
  | some y =>
    obtain ⟨A, c, h1, h2⟩ := h
    exact ⟨A, c, h1, h2, hb⟩
theorem RatOf.pair {w : World} {r : Option Tm} {e : Ending} {w' : World} (h : RatOf w r e w') : Pair w (r.getD tZero) (ecOf r) e w' := by
  obtain ⟨hb, h⟩ := h
  cases r with
  | none => exact ⟨none, 0, h, rep_zero _ _, hb⟩
  | some y =>
    obtain ⟨A, c, h1, h2⟩ := h
    exact ⟨A, c, h1, RepP.mono (fun b (h : b < w.heap.size) => by have := hb.size; omega) (fun _ _ => rfl) _ _ _ h2, hb⟩
theorem RreplOf.pair {w : World} {B : Nat} {r : Option Tm} {e : Ending} {w' : World} (h : RreplOf w B r e w') : Pair w (r.getD tZero) (ecOf r) e w' := by
  obtain ⟨hb, y, A, c, ec, h1, h2, h3⟩ := h
  rcases h3 with ⟨rfl, rfl, h4, h5⟩ | ⟨rfl, rfl⟩
  · subst h5
    exact ⟨A, c, h1, RepP.mono (fun _ h => h.2) (fun _ _ => rfl) _ _ _ h2, hb⟩
  · exact ⟨A, c, h1, RepP.mono (fun _ h => h.2) (fun _ _ => rfl) _ _ _ h2, hb⟩
theorem Tm.ec_repl (p : List Int) (t u : Tm) : ecOf (Tm.repl p t u) = ecOf (Tm.atP p t) := by
  unfold Tm.repl
  cases Tm.atP p t <;> rfl
theorem Tm.at_put : ∀ (p : List Int) (t u v : Tm), Tm.atP p t = some v → Tm.atP p (Tm.putP p t u) = some u
  | [], t, u, v, _ => rfl
  | i :: r, t, u, v, h => by
    rw [Tm.atP] at h
    cases hk : t.kid i with
    | none => simp [hk] at h
    | some k =>
      rw [hk] at h
      have h2 := Tm.at_put r k u v h
      obtain ⟨h0, hl, -⟩ := Tm.kid_lt hk
      simp only [Tm.putP, hk]
      rw [Tm.atP]
      have : (Tm.mk t.kind t.name t.sort (t.kids.set i.toNat (Tm.putP r k u))).kid i = some (Tm.putP r k u) := by
        unfold Tm.kid
        rw [if_pos h0]
        show (t.kids.set i.toNat _)[i.toNat]? = _
        exact List.getElem?_set_self hl
      rw [this]
      exact h2
theorem Tm.at_put_other : ∀ (p q : List Int) (t u v : Tm), Tm.atP p t = some v → (p.take (min p.length q.length) == q.take (min p.length q.length)) = false → Tm.atP q (Tm.putP p t u) = Tm.atP q t
  | [], q, t, u, v, _, h => by simp at h
  | i :: p, [], t, u, v, _, h => by simp at h
  | i :: p, j :: q, t, u, v, ha, h => by
    rw [Tm.atP] at ha
    cases hk : t.kid i with
    | none => simp [hk] at ha
    | some k =>
      rw [hk] at ha
      obtain ⟨h0, hl, -⟩ := Tm.kid_lt hk
      simp only [Tm.putP, hk]
      rw [Tm.atP, Tm.atP]
      by_cases hij : i = j
      · subst hij
        have h3 : (Tm.mk t.kind t.name t.sort (t.kids.set i.toNat (Tm.putP p k u))).kid i = some (Tm.putP p k u) := by
          unfold Tm.kid
          rw [if_pos h0]
          show (t.kids.set i.toNat _)[i.toNat]? = _
          exact List.getElem?_set_self hl
        rw [h3, hk]
        refine Tm.at_put_other p q k u v ha ?_
        have hm : min (i :: p).length (i :: q).length = min p.length q.length + 1 := by simp [Nat.add_min_add_right]
        rw [hm, List.take_succ_cons, List.take_succ_cons] at h
        simpa using h
      · have h3 : (Tm.mk t.kind t.name t.sort (t.kids.set i.toNat (Tm.putP p k u))).kid j = t.kid j := by
          unfold Tm.kid
          by_cases hj : 0 ≤ j
          · rw [if_pos hj, if_pos hj]
            have : i.toNat ≠ j.toNat := by omega
            show (t.kids.set i.toNat _)[j.toNat]? = t.kids[j.toNat]?
            exact List.getElem?_set_ne this
          · rw [if_neg hj, if_neg hj]
        rw [h3]
theorem Tm.at_size : ∀ (p : List Int) (t v : Tm), Tm.atP p t = some v → v.size ≤ t.size
  | [], t, v, h => by rw [Tm.atP, Option.some.injEq] at h; subst h; omega
  | i :: r, t, v, h => by
    rw [Tm.atP] at h
    cases hk : t.kid i with
    | none => simp [hk] at h
    | some k =>
      rw [hk] at h
      have h1 := Tm.at_size r k v h
      obtain ⟨-, hl, he⟩ := Tm.kid_lt hk
      have h2 := Tm.kid_size (t := t) (k := k) (by rw [← he]; exact List.getElem_mem _)
      omega
theorem clone_ints (p : List Int) (A : Option Addr) (cap : Nat) (w : World) (h : RepI w (fun b => b < w.heap.size) p A cap) (hp : p.length ≤ 1000000) :
    Calls Tryd.prog 34 #[.slice A p.length cap] w fun e w' => ∃ A' c', e = .returned (.slice A' p.length c') ∧ RepI w' (fun b => b < w'.heap.size) p A' c' ∧ Below w.heap.size w w' := by
  obtain ⟨h1, h2, h3⟩ := h
  rcases h3 with rfl | ⟨b, off, rfl, hb, hl⟩
  · cases A with
    | none =>
      refine (Tryd.slices_Clone_int_nil 0 cap w).mono ?_
      rintro e w' ⟨rfl, rfl⟩
      exact ⟨none, 0, rfl, ⟨Nat.le_refl _, Nat.zero_le _, .inl rfl⟩, Below.refl _ _⟩
    | some a =>
      refine (Tryd.slices_Clone_int_zero a cap w).mono ?_
      rintro e w' ⟨v, rfl, ho, hv, hbb⟩
      rcases ho.2 with ⟨rfl, -⟩ | ⟨g, c, cur, rfl, -, -, h4, h5, -⟩
      · exact absurd rfl hv
      · exact ⟨_, c, rfl, ⟨Nat.zero_le _, h5, .inl rfl⟩, hbb⟩
  · refine (Tryd.slices_Clone_int b off p.length cap p w (Nat.le_refl _) (by omega) (fun j hj => by rw [hl j hj]; simp [List.getD, hj])).mono ?_
    rintro e w' ⟨v, rfl, ho, hv, hbb⟩
    rw [List.take_length] at ho
    obtain ⟨g, c, rfl, g1, g2, hI⟩ := irep_of_own (p := p) ho rfl hv
    exact ⟨_, c, rfl, (hI _ g2).toI, hbb⟩
theorem equal_take (p q : List Int) (A A' : Option Addr) (c c' n d d' : Nat) (w : World) (h : RepI w (fun b => b < w.heap.size) p A c) (h' : RepI w (fun b => b < w.heap.size) q A' c') (hn : n ≤ p.length) (hn' : n ≤ q.length) (hp : p.length ≤ 1000000) :
    Calls Tryd.prog 24 #[.slice A n d, .slice A' n d'] w fun e w' => e = .returned (.bool (p.take n == q.take n)) ∧ Lay w.heap.size w w' := by
  by_cases h0 : n = 0
  · subst h0
    refine (Tryd.slices_Equal_int_empty A A' d 0 d' w (by decide)).mono ?_
    rintro e w' ⟨rfl, rfl⟩
    exact ⟨by simp, Lay.refl _ _⟩
  obtain ⟨-, -, h3⟩ := h
  obtain ⟨-, -, h3'⟩ := h'
  rcases h3 with rfl | ⟨b, off, rfl, hb, hl⟩
  · simp at hn; omega
  rcases h3' with rfl | ⟨b', off', rfl, hb', hl'⟩
  · simp at hn'; omega
  refine (Tryd.slices_Equal_int b off n d b' off' n d' p q w hn hn' (by omega) (by omega) (fun j hj => by rw [hl j hj]; simp [List.getD, hj]) (fun j hj => by rw [hl' j hj]; simp [List.getD, hj])).mono ?_
  rintro e w' ⟨rfl, k, rfl⟩
  exact ⟨rfl, (Lay.refl _ _).drewN k⟩

set_option maxHeartbeats 8000000 in
set_option maxRecDepth 100000 in
theorem replace_law (t u : Tm) (p : List Int) (A Au Ap : Option Addr) (cap cu cp : Nat) (w : World) (hw : Words w.heap.size w) (ht : RepT w w.heap.size t A cap) (hu : RepT w w.heap.size u Au cu) (hrp : RepI w (fun b => b < w.heap.size) p Ap cp) :
    Calls Tryd.prog 7 #[t.val A cap, u.val Au cu, .slice Ap p.length cp] w fun e w' => e = .returned (.bool true) ∧ Below w.heap.size w w' := by
  have mixed : Tryd.prog.follows .mixedOrders = true := by kernel_rfl
  obtain ⟨V1, hV1⟩ : ∃ V, V = w.alloc (boxOf t A cap) := ⟨_, rfl⟩
  obtain ⟨V, hV⟩ : ∃ V, V = V1.alloc (boxOf u Au cu) := ⟨_, rfl⟩
  have hs1 : V1.heap.size = w.heap.size + 1 := by rw [hV1]; simp
  have k1 : Below w.heap.size w V1 := by rw [hV1]; exact below1 (Nat.le_refl _) _
  have k2 : Below V1.heap.size V1 V := by rw [hV]; exact below1 (Nat.le_refl _) _
  have hbV := below_then k1 k2 k1.size
  have hxt : BoxT V w.heap.size t A cap := (show BoxT V1 w.heap.size t A cap by rw [hV1]; exact BoxT.new ht).below k2
  have hxu : BoxT V (w.heap.size + 1) u Au cu := by rw [hV, ← hs1]; exact BoxT.new (hu.go k1 k1.size)
  rw [hV1] at hV
  have HW := Lib.hid (hw.below hbV)
  have HRP := Lib.hid (hrp.go hbV hbV.size); clear hw ht hu hrp k1 k2 hs1 hV1
  have HB := Lib.hid hbV; clear hbV
  have HXT := Lib.hid hxt; clear hxt
  have HXU := Lib.hid hxu; clear hxu
  simp only [boxOf] at hV
  have HV := Lib.hid hV; clear hV
  simp only [Tm.val]
  go_enter Tryd.func7, Tryd.ntmps7
  go_wp2_with fail
  rw [← HV.out]
  refine (awake_any V HW.out).mono ?_
  rintro e w1 ⟨rfl, hb1⟩
  clear HV
  have n_HW := HW.out.below hb1
  have n_HRP := HRP.out.go hb1 hb1.size
  have n_HB := below_then HB.out hb1 HB.out.size
  have n_HXT := HXT.out.below hb1
  have n_HXU := HXU.out.below hb1
  clear HW HRP HB HXT HXU
  have HW := Lib.hid n_HW; clear n_HW
  have HRP := Lib.hid n_HRP; clear n_HRP
  have HB := Lib.hid n_HB; clear n_HB
  have HXT := Lib.hid n_HXT; clear n_HXT
  have HXU := Lib.hid n_HXU; clear n_HXU
  obtain ⟨a0, a1, a2, a3, -⟩ := HXT.out.cells
  obtain ⟨u0, u1, u2, u3, -⟩ := HXU.out.cells
  obtain ⟨Z, hZ⟩ : ∃ Z, Z = w1.alloc (.cells (itCells [(t, A, cap), (u, Au, cu)]).toArray 24) := ⟨_, rfl⟩
  have hzb : Below w1.heap.size w1 Z := by rw [hZ]; exact below1 (Nat.le_refl _) _
  have hsl : RepS Z (fun b => b < Z.heap.size) [t, u] (some ⟨w1.heap.size, 0, none⟩) 2 :=
    repS_cells [(t, A, cap), (u, Au, cu)] (by rw [hZ]; exact heap_alloc_new _ _) (by rw [hZ]; simp) (fun x hx => by
      simp only [List.mem_cons, List.not_mem_nil, or_false] at hx
      rcases hx with rfl | rfl
      · exact (HXT.out.below hzb).2
      · exact (HXU.out.below hzb).2) (by simp)
  simp only [itCells, Tm.cells, List.cons_append, List.nil_append] at hZ
  have HZ := Lib.hid hZ; clear hZ
  have HSL := Lib.hid hsl; clear hsl
  have n_HW := HW.out.below hzb
  have n_HRP := HRP.out.go hzb hzb.size
  have n_HB := below_then HB.out hzb HB.out.size
  have n_HXT := HXT.out.below hzb
  have n_HXU := HXU.out.below hzb
  clear HW HRP HB HXT HXU
  have HW := Lib.hid n_HW; clear n_HW
  have HRP := Lib.hid n_HRP; clear n_HRP
  have HB := Lib.hid n_HB; clear n_HB
  have HXT := Lib.hid n_HXT; clear n_HXT
  have HXU := Lib.hid n_HXU; clear n_HXU
  clear hb1 hzb
  go_wp2_with fail
  rw [← HZ.out]
  refine (few_any [t, u] _ 2 2 200 Z (by decide) (by decide) HSL.out).mono ?_
  rintro e w2 ⟨rfl, hl2⟩
  have hb2 := hl2.below
  clear HZ HSL hl2
  have n_HW := HW.out.below hb2
  have n_HRP := HRP.out.go hb2 hb2.size
  have n_HB := below_then HB.out hb2 HB.out.size
  have n_HXT := HXT.out.below hb2
  have n_HXU := HXU.out.below hb2
  clear HW HRP HB HXT HXU
  have HW := Lib.hid n_HW; clear n_HW
  have HRP := Lib.hid n_HRP; clear n_HRP
  have HB := Lib.hid n_HB; clear n_HB
  have HXT := Lib.hid n_HXT; clear n_HXT
  have HXU := Lib.hid n_HXU; clear n_HXU
  clear a0 a1 a2 a3 u0 u1 u2 u3
  obtain ⟨a0, a1, a2, a3, -⟩ := HXT.out.cells
  obtain ⟨u0, u1, u2, u3, -⟩ := HXU.out.cells
  clear hb2
  by_cases hle : (([t, u] : List Tm).length : Int) ≤ 2 ∧ 0 ≤ Tm.lefts [t, u] 200
  · have hsz := Tm.lefts_each (by decide) hle.2
    have st : t.size ≤ 200 := by have := hsz t (by simp); omega
    have su : u.size ≤ 200 := by have := hsz u (by simp); omega
    rw [decide_eq_true hle]
    clear hle hsz
    have ST := Lib.hid st; clear st
    have SU := Lib.hid su; clear su
    by_cases hp60 : (60 : Int) < (p.length : Int)
    · have d1 : decide ((60 : Int) < (p.length : Int)) = true := decide_eq_true hp60
      go_wp2_with fail
      refine (awake_any w2 HW.out).mono ?_
      rintro e w3 ⟨rfl, hb3⟩
      go_wp2_with fail
      go_ret
      exact ⟨rfl, below_then HB.out hb3 HB.out.size⟩
    · have d1 : decide ((60 : Int) < (p.length : Int)) = false := decide_eq_false hp60
      have hpl : p.length ≤ 60 := by omega
      clear hp60 HW
      have HPL := Lib.hid hpl; clear hpl
      obtain ⟨Y1, hY1⟩ : ∃ y, y = (Tm.repl p t u).getD tZero := ⟨_, rfl⟩
      obtain ⟨Y2, hY2⟩ : ∃ y, y = (Tm.atP p t).getD tZero := ⟨_, rfl⟩
      obtain ⟨E0, hE0⟩ : ∃ y, y = ecOf (Tm.atP p t) := ⟨_, rfl⟩
      have sy1 : Y1.size ≤ 1000 := by
        rw [hY1]; unfold Tm.repl
        cases Tm.atP p t with
        | none => show tZero.size ≤ 1000; decide
        | some v => have := Tm.put_size p t u; have := ST.out; have := SU.out; simp only [Option.getD_some]; omega
      have HY1 := Lib.hid hY1; clear hY1
      have HY2 := Lib.hid hY2; clear hY2
      have HE0 := Lib.hid hE0; clear hE0
      have SY1 := Lib.hid sy1; clear sy1

      go_wp2_with fail
      clear a0 a1 a2 a3 u0 u1 u2 u3
      have HF : Hid (∀ Y, Below w2.heap.size w2 Y → (Y.cell? ⟨w.heap.size, 0, none⟩ = some (.int .i64 t.kind) ∧ Y.cell? ⟨w.heap.size, 1, none⟩ = some (.string t.name) ∧ Y.cell? ⟨w.heap.size, 2, none⟩ = some (.int .i64 t.sort) ∧ Y.cell? ⟨w.heap.size, 3, none⟩ = some (.slice A t.kids.length cap)) ∧
          (Y.cell? ⟨w.heap.size + 1, 0, none⟩ = some (.int .i64 u.kind) ∧ Y.cell? ⟨w.heap.size + 1, 1, none⟩ = some (.string u.name) ∧ Y.cell? ⟨w.heap.size + 1, 2, none⟩ = some (.int .i64 u.sort) ∧ Y.cell? ⟨w.heap.size + 1, 3, none⟩ = some (.slice Au u.kids.length cu))) := fun Y h => by
        obtain ⟨h0, h1, h2, h3, -⟩ := (HXT.out.below h).cells
        obtain ⟨g0, g1, g2, g3, -⟩ := (HXU.out.below h).cells
        exact ⟨⟨h0, h1, h2, h3⟩, ⟨g0, g1, g2, g3⟩⟩
      have CLN : Hid (∀ Y, Below w2.heap.size w2 Y → Calls Tryd.prog 34 #[.slice Ap p.length cp] Y fun e w' => ∃ A' c', e = .returned (.slice A' p.length c') ∧ RepI w' (fun b => b < w'.heap.size) p A' c' ∧ Below Y.heap.size Y w') := fun Y h =>
        clone_ints p Ap cp Y (HRP.out.go h h.size) (by have := HPL.out; omega)
      have REP : Hid (∀ Y Aq cq, Below w2.heap.size w2 Y → RepI Y (fun b => b < Y.heap.size) p Aq cq → Calls Tryd.prog 33 #[.agg #[.int .i64 t.kind, .string t.name, .int .i64 t.sort, .slice A t.kids.length cap], .slice Aq p.length cq, .agg #[.int .i64 u.kind, .string u.name, .int .i64 u.sort, .slice Au u.kids.length cu]] Y (PairF Y Y1 E0)) := fun Y Aq cq h hq => by
        rw [HY1.out, HE0.out, ← Tm.ec_repl p t u]
        exact (replace_any t u A Au cap cu p Aq cq Y (by have := ST.out; omega) (by have := SU.out; omega) (by have := HPL.out; omega) (HXT.out.below h).2 (HXU.out.below h).2 hq).mono fun _ _ h => h.pairF
      have hS : Below w2.heap.size w2 w2.drew := (Lay.refl _ _).drew.below
      have HS := Lib.hid hS; clear hS
      refine region_cut (fun a0 a' w' => ∃ bx A7 c7 Aq cq, a' = ((((((((((a0.put (some 40) (.agg #[.int .i64 t.kind, .string t.name, .int .i64 t.sort, .slice A t.kids.length cap])).put (some 41) (.slice Ap p.length cp)).put (some 42) (.slice Aq p.length cq)).put (some 43) (.agg #[.int .i64 u.kind, .string u.name, .int .i64 u.sort, .slice Au u.kids.length cu])).put (some 44) (.tuple #[.agg #[.int .i64 Y1.kind, .string Y1.name, .int .i64 Y1.sort, .slice A7 Y1.kids.length c7], .int .i64 E0])).put (some 39) (.tuple #[.agg #[.int .i64 Y1.kind, .string Y1.name, .int .i64 Y1.sort, .slice A7 Y1.kids.length c7], .int .i64 E0])).put (some 45) (.agg #[.int .i64 Y1.kind, .string Y1.name, .int .i64 Y1.sort, .slice A7 Y1.kids.length c7])).put (some 46) (.int .i64 E0)).put (some 7) (.pointer (some ⟨bx, 0, none⟩))).put (some 8) (.int .i64 E0)) ∧
          BoxT w' bx Y1 A7 c7 ∧ Below w2.heap.size w2 w') ?_ ?_
      · refine wp_region_mix (fun Y => Below w2.heap.size w2 Y) 11 (.held 0 (.held 1 (.held 3 (.two 2 8 (.two 4 8 (.held 5 (.held 6 (.held 7 (.op 8 (.op 9 (.op 10 .nil)))))) (.op 4 (.held 5 (.held 6 (.held 7 (.op 9 (.op 10 .nil))))))) (.op 2 (.op 4 (.held 5 (.held 6 (.held 7 (.op 9 (.op 10 .nil))))))))))) mixed (by kernel_rfl) ?_
        refine mix_take (v := .agg #[.int .i64 t.kind, .string t.name, .int .i64 t.sort, .slice A t.kids.length cap]) rfl rfl (fun _ _ _ h => nomatch h.1) HS.out (fun Y hY => by obtain ⟨⟨b0, b1, b2, b3⟩, b4, b5, b6, b7⟩ := HF.out Y hY; (try simp only [Act.put]); go_simp) ?_
        refine mix_take (v := .slice Ap p.length cp) rfl rfl (fun _ _ _ h => nomatch h.1) HS.out (fun Y hY => by obtain ⟨⟨b0, b1, b2, b3⟩, b4, b5, b6, b7⟩ := HF.out Y hY; (try simp only [Act.put]); go_simp) ?_
        refine mix_take (v := .agg #[.int .i64 u.kind, .string u.name, .int .i64 u.sort, .slice Au u.kids.length cu]) rfl rfl (fun _ _ _ h => nomatch h.1) HS.out (fun Y hY => by obtain ⟨⟨b0, b1, b2, b3⟩, b4, b5, b6, b7⟩ := HF.out Y hY; (try simp only [Act.put]); go_simp) ?_
        simp only [Act.put, List.setIfInBounds_toArray]
        refine mix_two ?_ ?_
        · skip
          refine mix_op rfl rfl (fun K hK => ?_)
          go_wp2_with fail
          refine (CLN.out w2.drew HS.out).mono ?_
          rintro e y1 ⟨Aq, cq, rfl, hrq, hb⟩
          have hS := below_then HS.out hb HS.out.size; clear HS
          have HS := Lib.hid hS; clear hS
          have HRQ := Lib.hid hrq; clear hrq hb
          refine hK _ _ ⟨fun _ => HS.out, ?_⟩; clear hK K
          refine mix_two ?_ ?_
          · skip
            refine mix_op rfl rfl (fun K hK => ?_)
            go_wp2_with fail
            refine (REP.out y1 Aq cq HS.out HRQ.out).mono ?_
            rintro e y2 ⟨A7, c7, rfl, hr7, hb⟩
            have hS := below_then HS.out hb HS.out.size; clear HS
            have HS := Lib.hid hS; clear hS
            have HR7 := Lib.hid (repT_of hr7); clear hr7 hb
            refine hK _ _ ⟨fun _ => HS.out, ?_⟩; clear hK K
            refine mix_take (v := .tuple #[.agg #[.int .i64 Y1.kind, .string Y1.name, .int .i64 Y1.sort, .slice A7 Y1.kids.length c7], .int .i64 E0]) rfl rfl (fun _ _ _ h => nomatch h.1) HS.out (fun Y hY => by obtain ⟨⟨b0, b1, b2, b3⟩, b4, b5, b6, b7⟩ := HF.out Y hY; (try simp only [Act.put]); go_simp) ?_
            refine mix_take (v := .agg #[.int .i64 Y1.kind, .string Y1.name, .int .i64 Y1.sort, .slice A7 Y1.kids.length c7]) rfl rfl (fun _ _ _ h => nomatch h.1) HS.out (fun Y hY => by obtain ⟨⟨b0, b1, b2, b3⟩, b4, b5, b6, b7⟩ := HF.out Y hY; (try simp only [Act.put]); go_simp) ?_
            refine mix_take (v := .int .i64 E0) rfl rfl (fun _ _ _ h => nomatch h.1) HS.out (fun Y hY => by obtain ⟨⟨b0, b1, b2, b3⟩, b4, b5, b6, b7⟩ := HF.out Y hY; (try simp only [Act.put]); go_simp) ?_
            simp only [Act.put, List.setIfInBounds_toArray]
            refine mix_op rfl rfl (fun K hK => ?_)
            go_wp2_with fail
            refine ⟨fun _ => HS.out.alloc HS.out.size _, ?_⟩
            refine mix_op rfl rfl (fun K hK => ?_)
            go_wp2_with fail
            have hbx := BoxT.new HR7.out
            simp only [boxOf] at hbx
            have hs4 := HS.out.alloc HS.out.size (.cells #[.int .i64 Y1.kind, .string Y1.name, .int .i64 Y1.sort, .slice A7 Y1.kids.length c7] 24)
            clear HS HR7
            generalize y2.alloc (.cells #[.int .i64 Y1.kind, .string Y1.name, .int .i64 Y1.sort, .slice A7 Y1.kids.length c7] 24) = E at *
            have HS := Lib.hid hs4; clear hs4
            have HBX := Lib.hid hbx; clear hbx
            refine ⟨fun _ => HS.out, ?_⟩
            refine mix_op rfl rfl (fun K hK => ?_)
            go_wp2_with fail
            exact ⟨fun _ => HS.out, mix_nil ⟨rfl, y2.heap.size, A7, c7, Aq, cq, rfl, HBX.out, HS.out⟩⟩
          · skip
            refine mix_op rfl rfl (fun K hK => ?_)
            go_wp2_with fail
            refine ⟨fun _ => HS.out.alloc HS.out.size _, ?_⟩
            obtain ⟨X, hX⟩ : ∃ X, X = (y1.alloc (.cells #[.int .i64 0, .string ⟨#[]⟩, .int .i64 0, .slice none 0 0] 24)) := ⟨_, rfl⟩
            have hXn : X.heap[y1.heap.size]? = some (.cells #[.int .i64 0, .string ⟨#[]⟩, .int .i64 0, .slice none 0 0] 24) := by rw [hX]; exact heap_alloc_new y1 _
            have hXs : X.heap.size = y1.heap.size + 1 := by rw [hX]; simp
            have hS : Below w2.heap.size w2 X := by rw [hX]; exact HS.out.alloc HS.out.size _
            have hwb : w2.heap.size ≤ y1.heap.size := HS.out.size
            have hrq' : RepI X (fun b => b < X.heap.size) p Aq cq := HRQ.out.go (by rw [hX]; exact below1 (Nat.le_refl _) _) (by omega)
            rw [← hX]
            clear HS hX
            have HS := Lib.hid hS; clear hS
            have HXN := Lib.hid hXn; clear hXn
            have HXS := Lib.hid hXs; clear hXs
            clear HRQ; have HRQ := Lib.hid hrq'; clear hrq'
            refine mix_op rfl rfl (fun K hK => ?_)
            go_wp2_with fail
            refine (REP.out X Aq cq HS.out HRQ.out).mono ?_
            rintro e y2 ⟨A7, c7, rfl, hr7, hb⟩
            have hS := below_then HS.out hb HS.out.size; clear HS
            have HS := Lib.hid hS; clear hS
            have hYn := (hb.block y1.heap.size (by rw [HXS.out]; omega)).trans HXN.out
            have hr7' : RepP y2 (fun b => y1.heap.size + 1 ≤ b ∧ b < y2.heap.size) Y1 A7 c7 := by rw [← HXS.out]; exact hr7
            have HYN := Lib.hid hYn; clear hYn
            have HR7 := Lib.hid hr7'; clear hr7' hr7 hb HXN HXS
            obtain ⟨z0, z1, z2, z3, z4⟩ := box_at HYN.out
            refine hK _ _ ⟨fun _ => HS.out, ?_⟩; clear hK K
            refine mix_take (v := .tuple #[.agg #[.int .i64 Y1.kind, .string Y1.name, .int .i64 Y1.sort, .slice A7 Y1.kids.length c7], .int .i64 E0]) rfl rfl (fun _ _ _ h => nomatch h.1) HS.out (fun Y hY => by obtain ⟨⟨b0, b1, b2, b3⟩, b4, b5, b6, b7⟩ := HF.out Y hY; (try simp only [Act.put]); go_simp) ?_
            refine mix_take (v := .agg #[.int .i64 Y1.kind, .string Y1.name, .int .i64 Y1.sort, .slice A7 Y1.kids.length c7]) rfl rfl (fun _ _ _ h => nomatch h.1) HS.out (fun Y hY => by obtain ⟨⟨b0, b1, b2, b3⟩, b4, b5, b6, b7⟩ := HF.out Y hY; (try simp only [Act.put]); go_simp) ?_
            refine mix_take (v := .int .i64 E0) rfl rfl (fun _ _ _ h => nomatch h.1) HS.out (fun Y hY => by obtain ⟨⟨b0, b1, b2, b3⟩, b4, b5, b6, b7⟩ := HF.out Y hY; (try simp only [Act.put]); go_simp) ?_
            simp only [Act.put, List.setIfInBounds_toArray]
            have hE4 : BoxT ((((y2.setCell ⟨y1.heap.size, 0, none⟩ (.int .i64 Y1.kind)).setCell ⟨y1.heap.size, 1, none⟩ (.string Y1.name)).setCell ⟨y1.heap.size, 2, none⟩ (.int .i64 Y1.sort)).setCell ⟨y1.heap.size, 3, none⟩ (.slice A7 Y1.kids.length c7)) y1.heap.size Y1 A7 c7 := ⟨heap_set4 HYN.out, RepP.mono (fun b ⟨_, h2⟩ => by simpa [World.setCell] using h2) (fun q ⟨h1, _⟩ => World.cell?_of_block (heap_set4_other (by omega))) _ _ _ HR7.out⟩
            have hS4 : Below w2.heap.size w2 ((((y2.setCell ⟨y1.heap.size, 0, none⟩ (.int .i64 Y1.kind)).setCell ⟨y1.heap.size, 1, none⟩ (.string Y1.name)).setCell ⟨y1.heap.size, 2, none⟩ (.int .i64 Y1.sort)).setCell ⟨y1.heap.size, 3, none⟩ (.slice A7 Y1.kids.length c7)) := below_set4 HS.out hwb
            have HE4 := Lib.hid hE4; clear hE4
            have HS4 := Lib.hid hS4; clear hS4
            clear HS
            refine mix_op rfl rfl (fun K hK => ?_)
            go_wp2_with fail
            have HBX := HE4
            have HS := HS4
            clear HE4 HS4 z0 z1 z2 z3 z4
            generalize ((((y2.setCell ⟨y1.heap.size, 0, none⟩ (.int .i64 Y1.kind)).setCell ⟨y1.heap.size, 1, none⟩ (.string Y1.name)).setCell ⟨y1.heap.size, 2, none⟩ (.int .i64 Y1.sort)).setCell ⟨y1.heap.size, 3, none⟩ (.slice A7 Y1.kids.length c7)) = E at *
            refine ⟨fun _ => HS.out, ?_⟩
            refine mix_op rfl rfl (fun K hK => ?_)
            go_wp2_with fail
            exact ⟨fun _ => HS.out, mix_nil ⟨rfl, y1.heap.size, A7, c7, Aq, cq, rfl, HBX.out, HS.out⟩⟩
        · skip
          refine mix_op rfl rfl (fun K hK => ?_)
          go_wp2_with fail
          refine ⟨fun _ => HS.out.alloc HS.out.size _, ?_⟩
          obtain ⟨X, hX⟩ : ∃ X, X = (w2.alloc (.cells #[.int .i64 0, .string ⟨#[]⟩, .int .i64 0, .slice none 0 0] 24)).drew := ⟨_, rfl⟩
          have hXn : X.heap[w2.heap.size]? = some (.cells #[.int .i64 0, .string ⟨#[]⟩, .int .i64 0, .slice none 0 0] 24) := by rw [hX]; exact heap_alloc_new w2 _
          have hXs : X.heap.size = w2.heap.size + 1 := by rw [hX]; simp
          have hS : Below w2.heap.size w2 X := by rw [hX]; exact HS.out.alloc HS.out.size _
          have hwb : w2.heap.size ≤ w2.heap.size := HS.out.size
          rw [← hX]
          clear HS hX
          have HS := Lib.hid hS; clear hS
          have HXN := Lib.hid hXn; clear hXn
          have HXS := Lib.hid hXs; clear hXs
          refine mix_op rfl rfl (fun K hK => ?_)
          go_wp2_with fail
          refine (CLN.out X HS.out).mono ?_
          rintro e y1 ⟨Aq, cq, rfl, hrq, hb⟩
          have hS := below_then HS.out hb HS.out.size; clear HS
          have HS := Lib.hid hS; clear hS
          have hYn := (hb.block w2.heap.size (by rw [HXS.out]; omega)).trans HXN.out
          have hys := hb.size
          have hys' : w2.heap.size + 1 ≤ y1.heap.size := by rw [HXS.out] at hys; exact hys
          have HYN0 := Lib.hid hYn; clear hYn hys HXN HXS
          have HRQ := Lib.hid hrq; clear hrq hb
          refine hK _ _ ⟨fun _ => HS.out, ?_⟩; clear hK K
          refine mix_op rfl rfl (fun K hK => ?_)
          go_wp2_with fail
          refine (REP.out y1 Aq cq HS.out HRQ.out).mono ?_
          rintro e y2 ⟨A7, c7, rfl, hr7, hb⟩
          have hS := below_then HS.out hb HS.out.size; clear HS
          have HS := Lib.hid hS; clear hS
          have hYn := (hb.block w2.heap.size (by omega)).trans HYN0.out
          have hr7' : RepP y2 (fun b => w2.heap.size + 1 ≤ b ∧ b < y2.heap.size) Y1 A7 c7 := RepP.mono (fun b h => ⟨by omega, h.2⟩) (fun _ _ => rfl) _ _ _ hr7
          have HYN := Lib.hid hYn; clear hYn
          have HR7 := Lib.hid hr7'; clear hr7' hr7 hb HYN0
          obtain ⟨z0, z1, z2, z3, z4⟩ := box_at HYN.out
          refine hK _ _ ⟨fun _ => HS.out, ?_⟩; clear hK K
          refine mix_take (v := .tuple #[.agg #[.int .i64 Y1.kind, .string Y1.name, .int .i64 Y1.sort, .slice A7 Y1.kids.length c7], .int .i64 E0]) rfl rfl (fun _ _ _ h => nomatch h.1) HS.out (fun Y hY => by obtain ⟨⟨b0, b1, b2, b3⟩, b4, b5, b6, b7⟩ := HF.out Y hY; (try simp only [Act.put]); go_simp) ?_
          refine mix_take (v := .agg #[.int .i64 Y1.kind, .string Y1.name, .int .i64 Y1.sort, .slice A7 Y1.kids.length c7]) rfl rfl (fun _ _ _ h => nomatch h.1) HS.out (fun Y hY => by obtain ⟨⟨b0, b1, b2, b3⟩, b4, b5, b6, b7⟩ := HF.out Y hY; (try simp only [Act.put]); go_simp) ?_
          refine mix_take (v := .int .i64 E0) rfl rfl (fun _ _ _ h => nomatch h.1) HS.out (fun Y hY => by obtain ⟨⟨b0, b1, b2, b3⟩, b4, b5, b6, b7⟩ := HF.out Y hY; (try simp only [Act.put]); go_simp) ?_
          simp only [Act.put, List.setIfInBounds_toArray]
          have hE4 : BoxT ((((y2.setCell ⟨w2.heap.size, 0, none⟩ (.int .i64 Y1.kind)).setCell ⟨w2.heap.size, 1, none⟩ (.string Y1.name)).setCell ⟨w2.heap.size, 2, none⟩ (.int .i64 Y1.sort)).setCell ⟨w2.heap.size, 3, none⟩ (.slice A7 Y1.kids.length c7)) w2.heap.size Y1 A7 c7 := ⟨heap_set4 HYN.out, RepP.mono (fun b ⟨_, h2⟩ => by simpa [World.setCell] using h2) (fun q ⟨h1, _⟩ => World.cell?_of_block (heap_set4_other (by omega))) _ _ _ HR7.out⟩
          have hS4 : Below w2.heap.size w2 ((((y2.setCell ⟨w2.heap.size, 0, none⟩ (.int .i64 Y1.kind)).setCell ⟨w2.heap.size, 1, none⟩ (.string Y1.name)).setCell ⟨w2.heap.size, 2, none⟩ (.int .i64 Y1.sort)).setCell ⟨w2.heap.size, 3, none⟩ (.slice A7 Y1.kids.length c7)) := below_set4 HS.out hwb
          have HE4 := Lib.hid hE4; clear hE4
          have HS4 := Lib.hid hS4; clear hS4
          clear HS
          refine mix_op rfl rfl (fun K hK => ?_)
          go_wp2_with fail
          have HBX := HE4
          have HS := HS4
          clear HE4 HS4 z0 z1 z2 z3 z4
          generalize ((((y2.setCell ⟨w2.heap.size, 0, none⟩ (.int .i64 Y1.kind)).setCell ⟨w2.heap.size, 1, none⟩ (.string Y1.name)).setCell ⟨w2.heap.size, 2, none⟩ (.int .i64 Y1.sort)).setCell ⟨w2.heap.size, 3, none⟩ (.slice A7 Y1.kids.length c7)) = E at *
          refine ⟨fun _ => HS.out, ?_⟩
          refine mix_op rfl rfl (fun K hK => ?_)
          go_wp2_with fail
          exact ⟨fun _ => HS.out, mix_nil ⟨rfl, w2.heap.size, A7, c7, Aq, cq, rfl, HBX.out, HS.out⟩⟩
      · rintro a' E ⟨bx, A7, c7, Aq, cq, rfl, hbx, hbE⟩
        clear CLN REP HF HS
        have H7 := Lib.hid hbx; clear hbx
        have n_HRP := HRP.out.go hbE hbE.size
        have n_HB := below_then HB.out hbE HB.out.size
        have n_HXT := HXT.out.below hbE
        have n_HXU := HXU.out.below hbE
        clear HRP HB HXT HXU
        have HRP := Lib.hid n_HRP; clear n_HRP
        have HB := Lib.hid n_HB; clear n_HB
        have HXT := Lib.hid n_HXT; clear n_HXT
        have HXU := Lib.hid n_HXU; clear n_HXU
        clear hbE
        simp only [Act.put, List.setIfInBounds_toArray]
        obtain ⟨a0, a1, a2, a3, -⟩ := HXT.out.cells
        obtain ⟨u0, u1, u2, u3, -⟩ := HXU.out.cells
        have CON := Lib.hid (show Calls Tryd.prog 35 #[.agg #[.int .i64 t.kind, .string t.name, .int .i64 t.sort, .slice A t.kids.length cap], .slice Ap p.length cp, .agg #[.int .i64 u.kind, .string u.name, .int .i64 u.sort, .slice Au u.kids.length cu]] E (Pair E Y1 E0) from by
          rw [HY1.out, HE0.out, ← Tm.ec_repl p t u]
          exact (rreplace_any E.heap.size u (by have := SU.out; omega) p t A Au cap cu Ap cp E (Nat.le_refl _) (by have := ST.out; omega) (by have := HPL.out; omega) HXT.out.2 HXU.out.2 HRP.out).mono fun _ _ h => h.pair)
        go_wp2_with fail
        refine CON.out.mono ?_
        clear CON
        rintro e y9 ⟨A9, c9, rfl, hr, hb⟩
        obtain ⟨X9, hX⟩ : ∃ X, X = y9.alloc (.cells #[.int .i64 Y1.kind, .string Y1.name, .int .i64 Y1.sort, .slice A9 Y1.kids.length c9] 24) := ⟨_, rfl⟩
        obtain ⟨b9, hbi⟩ : ∃ b, b = y9.heap.size := ⟨_, rfl⟩
        have hbx : BoxT X9 b9 Y1 A9 c9 := by rw [hX, hbi]; exact BoxT.new hr
        have hbb : Below E.heap.size E X9 := by rw [hX]; exact hb.alloc hb.size _
        clear a0 a1 a2 a3 u0 u1 u2 u3
        have n_HRP := HRP.out.go hbb hbb.size
        have n_HB := below_then HB.out hbb HB.out.size
        have n_HXT := HXT.out.below hbb
        have n_HXU := HXU.out.below hbb
        have n_H7 := H7.out.below hbb
        clear HRP HB HXT HXU H7
        have HRP := Lib.hid n_HRP; clear n_HRP
        have HB := Lib.hid n_HB; clear n_HB
        have HXT := Lib.hid n_HXT; clear n_HXT
        have HXU := Lib.hid n_HXU; clear n_HXU
        have H7 := Lib.hid n_H7; clear n_H7
        have H9 := Lib.hid hbx; clear hbx hbb hr hb
        have HX9 := Lib.hid hX; clear hX
        have HBI9 := Lib.hid hbi; clear hbi
        obtain ⟨a0, a1, a2, a3, -⟩ := HXT.out.cells
        rw [HX9.out] at a0 a1 a2 a3
        have CON := Lib.hid (show Calls Tryd.prog 23 #[.agg #[.int .i64 t.kind, .string t.name, .int .i64 t.sort, .slice A t.kids.length cap], .slice Ap p.length cp] X9 (Pair X9 Y2 E0) from by
          rw [HY2.out, HE0.out]
          exact (at_any t A cap p Ap cp X9 (by have := ST.out; omega) (by have := HPL.out; omega) HXT.out.2 HRP.out).mono fun _ _ h => h.pair)
        go_wp2_with fail
        rw [← HX9.out, ← HBI9.out]
        refine CON.out.mono ?_
        clear CON
        clear HX9 HBI9
        rintro e y11 ⟨A11, c11, rfl, hr, hb⟩
        obtain ⟨X11, hX⟩ : ∃ X, X = y11.alloc (.cells #[.int .i64 Y2.kind, .string Y2.name, .int .i64 Y2.sort, .slice A11 Y2.kids.length c11] 24) := ⟨_, rfl⟩
        obtain ⟨b11, hbi⟩ : ∃ b, b = y11.heap.size := ⟨_, rfl⟩
        have hbx : BoxT X11 b11 Y2 A11 c11 := by rw [hX, hbi]; exact BoxT.new hr
        have hbb : Below X9.heap.size X9 X11 := by rw [hX]; exact hb.alloc hb.size _
        clear a0 a1 a2 a3
        have n_HRP := HRP.out.go hbb hbb.size
        have n_HB := below_then HB.out hbb HB.out.size
        have n_HXT := HXT.out.below hbb
        have n_HXU := HXU.out.below hbb
        have n_H7 := H7.out.below hbb
        have n_H9 := H9.out.below hbb
        clear HRP HB HXT HXU H7 H9
        have HRP := Lib.hid n_HRP; clear n_HRP
        have HB := Lib.hid n_HB; clear n_HB
        have HXT := Lib.hid n_HXT; clear n_HXT
        have HXU := Lib.hid n_HXU; clear n_HXU
        have H7 := Lib.hid n_H7; clear n_H7
        have H9 := Lib.hid n_H9; clear n_H9
        have H11 := Lib.hid hbx; clear hbx hbb hr hb
        have HX11 := Lib.hid hX; clear hX
        have HBI11 := Lib.hid hbi; clear hbi
        obtain ⟨a0, a1, a2, a3, -⟩ := HXT.out.cells
        rw [HX11.out] at a0 a1 a2 a3
        have CON := Lib.hid (show Calls Tryd.prog 36 #[.agg #[.int .i64 t.kind, .string t.name, .int .i64 t.sort, .slice A t.kids.length cap], .slice Ap p.length cp] X11 (Pair X11 Y2 E0) from by
          rw [HY2.out, HE0.out]
          exact (rat_any t A cap p Ap cp X11 (by have := ST.out; omega) (by have := HPL.out; omega) HXT.out.2 HRP.out).mono fun _ _ h => h.pair)
        go_wp2_with fail
        rw [← HX11.out, ← HBI11.out]
        refine CON.out.mono ?_
        clear CON
        clear HX11 HBI11
        rintro e y13 ⟨A13, c13, rfl, hr, hb⟩
        obtain ⟨X13, hX⟩ : ∃ X, X = y13.alloc (.cells #[.int .i64 Y2.kind, .string Y2.name, .int .i64 Y2.sort, .slice A13 Y2.kids.length c13] 24) := ⟨_, rfl⟩
        obtain ⟨b13, hbi⟩ : ∃ b, b = y13.heap.size := ⟨_, rfl⟩
        have hbx : BoxT X13 b13 Y2 A13 c13 := by rw [hX, hbi]; exact BoxT.new hr
        have hbb : Below X11.heap.size X11 X13 := by rw [hX]; exact hb.alloc hb.size _
        clear a0 a1 a2 a3
        have n_HRP := HRP.out.go hbb hbb.size
        have n_HB := below_then HB.out hbb HB.out.size
        have n_HXT := HXT.out.below hbb
        have n_HXU := HXU.out.below hbb
        have n_H7 := H7.out.below hbb
        have n_H9 := H9.out.below hbb
        have n_H11 := H11.out.below hbb
        clear HRP HB HXT HXU H7 H9 H11
        have HRP := Lib.hid n_HRP; clear n_HRP
        have HB := Lib.hid n_HB; clear n_HB
        have HXT := Lib.hid n_HXT; clear n_HXT
        have HXU := Lib.hid n_HXU; clear n_HXU
        have H7 := Lib.hid n_H7; clear n_H7
        have H9 := Lib.hid n_H9; clear n_H9
        have H11 := Lib.hid n_H11; clear n_H11
        have H13 := Lib.hid hbx; clear hbx hbb hr hb
        have HX13 := Lib.hid hX; clear hX
        have HBI13 := Lib.hid hbi; clear hbi
        obtain ⟨s0, s1, s2, s3, -⟩ := H7.out.cells
        obtain ⟨q0, q1, q2, q3, -⟩ := H9.out.cells
        obtain ⟨m0, m1, m2, m3, -⟩ := H11.out.cells
        obtain ⟨n0, n1, n2, n3, -⟩ := H13.out.cells
        rw [HX13.out] at s0 s1 s2 s3 q0 q1 q2 q3 m0 m1 m2 m3 n0 n1 n2 n3
        have sy2 : Y2.size ≤ 1000 := by
          rw [HY2.out]
          cases ha : Tm.atP p t with
          | none => show tZero.size ≤ 1000; decide
          | some v => have := Tm.at_size p t v ha; have := ST.out; simp only [Option.getD_some]; omega
        have SY2 := Lib.hid sy2; clear sy2
        have CON := rsame_any Y1 Y1 A7 A9 c7 c9 X13 (by have := SY1.out; omega) (by have := SY1.out; omega) H7.out.2 H9.out.2
        rw [show Y1.same Y1 = true from Tm.same_iff.2 rfl] at CON
        have CON := Lib.hid CON
        go_wp2_with fail
        rw [← HX13.out, ← HBI13.out]
        refine CON.out.mono ?_
        clear CON
        clear HX13 HBI13
        rintro e z1 ⟨rfl, hl⟩
        have hbb := hl.below
        clear s0 s1 s2 s3 q0 q1 q2 q3 m0 m1 m2 m3 n0 n1 n2 n3
        have n_HRP := HRP.out.go hbb hbb.size
        have n_HB := below_then HB.out hbb HB.out.size
        have n_HXT := HXT.out.below hbb
        have n_HXU := HXU.out.below hbb
        have n_H7 := H7.out.below hbb
        have n_H9 := H9.out.below hbb
        have n_H11 := H11.out.below hbb
        have n_H13 := H13.out.below hbb
        clear HRP HB HXT HXU H7 H9 H11 H13
        have HRP := Lib.hid n_HRP; clear n_HRP
        have HB := Lib.hid n_HB; clear n_HB
        have HXT := Lib.hid n_HXT; clear n_HXT
        have HXU := Lib.hid n_HXU; clear n_HXU
        have H7 := Lib.hid n_H7; clear n_H7
        have H9 := Lib.hid n_H9; clear n_H9
        have H11 := Lib.hid n_H11; clear n_H11
        have H13 := Lib.hid n_H13; clear n_H13
        clear hbb hl
        obtain ⟨m0, m1, m2, m3, -⟩ := H11.out.cells
        obtain ⟨n0, n1, n2, n3, -⟩ := H13.out.cells
        have CON := rsame_any Y2 Y2 A11 A13 c11 c13 z1 (by have := SY2.out; omega) (by have := SY2.out; omega) H11.out.2 H13.out.2
        rw [show Y2.same Y2 = true from Tm.same_iff.2 rfl] at CON
        have CON := Lib.hid CON
        go_wp2_with fail
        refine CON.out.mono ?_
        clear CON
        rintro e z2 ⟨rfl, hl⟩
        have hbb := hl.below
        clear m0 m1 m2 m3 n0 n1 n2 n3
        have n_HRP := HRP.out.go hbb hbb.size
        have n_HB := below_then HB.out hbb HB.out.size
        have n_HXT := HXT.out.below hbb
        have n_HXU := HXU.out.below hbb
        have n_H7 := H7.out.below hbb
        have n_H9 := H9.out.below hbb
        have n_H11 := H11.out.below hbb
        have n_H13 := H13.out.below hbb
        clear HRP HB HXT HXU H7 H9 H11 H13
        have HRP := Lib.hid n_HRP; clear n_HRP
        have HB := Lib.hid n_HB; clear n_HB
        have HXT := Lib.hid n_HXT; clear n_HXT
        have HXU := Lib.hid n_HXU; clear n_HXU
        have H7 := Lib.hid n_H7; clear n_H7
        have H9 := Lib.hid n_H9; clear n_H9
        have H11 := Lib.hid n_H11; clear n_H11
        have H13 := Lib.hid n_H13; clear n_H13
        clear hbb hl
        have hE : (E0 = 7) ∨ (E0 = 0 ∧ ∃ v, Tm.atP p t = some v ∧ Y1 = Tm.putP p t u) := by
          rw [HE0.out, HY1.out]
          cases ha : Tm.atP p t with
          | none => exact .inl rfl
          | some v => exact .inr ⟨rfl, v, rfl, by rw [Tm.repl_some ha]; rfl⟩
        clear HE0 HY2 HY1
        rcases hE with rfl | ⟨rfl, v, hat, hput⟩
        · skip
          obtain ⟨s0, s1, s2, s3, -⟩ := H7.out.cells
          obtain ⟨q0, q1, q2, q3, -⟩ := H9.out.cells
          have CON := rsame_any Y1 Y1 A7 A9 c7 c9 z2 (by have := SY1.out; omega) (by have := SY1.out; omega) H7.out.2 H9.out.2
          rw [show Y1.same Y1 = true from Tm.same_iff.2 rfl] at CON
          have CON := Lib.hid CON
          go_wp2_with fail
          refine CON.out.mono ?_
          clear CON
          rintro e z3 ⟨rfl, hl⟩
          have hbb := hl.below
          clear s0 s1 s2 s3 q0 q1 q2 q3
          have n_HRP := HRP.out.go hbb hbb.size
          have n_HB := below_then HB.out hbb HB.out.size
          have n_HXT := HXT.out.below hbb
          have n_HXU := HXU.out.below hbb
          have n_H7 := H7.out.below hbb
          have n_H9 := H9.out.below hbb
          have n_H11 := H11.out.below hbb
          have n_H13 := H13.out.below hbb
          clear HRP HB HXT HXU H7 H9 H11 H13
          have HRP := Lib.hid n_HRP; clear n_HRP
          have HB := Lib.hid n_HB; clear n_HB
          have HXT := Lib.hid n_HXT; clear n_HXT
          have HXU := Lib.hid n_HXU; clear n_HXU
          have H7 := Lib.hid n_H7; clear n_H7
          have H9 := Lib.hid n_H9; clear n_H9
          have H11 := Lib.hid n_H11; clear n_H11
          have H13 := Lib.hid n_H13; clear n_H13
          clear hbb hl
          obtain ⟨m0, m1, m2, m3, -⟩ := H11.out.cells
          obtain ⟨n0, n1, n2, n3, -⟩ := H13.out.cells
          have CON := rsame_any Y2 Y2 A11 A13 c11 c13 z3 (by have := SY2.out; omega) (by have := SY2.out; omega) H11.out.2 H13.out.2
          rw [show Y2.same Y2 = true from Tm.same_iff.2 rfl] at CON
          have CON := Lib.hid CON
          go_wp2_with fail
          refine CON.out.mono ?_
          clear CON
          rintro e z4 ⟨rfl, hl⟩
          have hbb := hl.below
          clear m0 m1 m2 m3 n0 n1 n2 n3
          have n_HRP := HRP.out.go hbb hbb.size
          have n_HB := below_then HB.out hbb HB.out.size
          have n_HXT := HXT.out.below hbb
          have n_HXU := HXU.out.below hbb
          have n_H7 := H7.out.below hbb
          have n_H9 := H9.out.below hbb
          have n_H11 := H11.out.below hbb
          have n_H13 := H13.out.below hbb
          clear HRP HB HXT HXU H7 H9 H11 H13
          have HRP := Lib.hid n_HRP; clear n_HRP
          have HB := Lib.hid n_HB; clear n_HB
          have HXT := Lib.hid n_HXT; clear n_HXT
          have HXU := Lib.hid n_HXU; clear n_HXU
          have H7 := Lib.hid n_H7; clear n_H7
          have H9 := Lib.hid n_H9; clear n_H9
          have H11 := Lib.hid n_H11; clear n_H11
          have H13 := Lib.hid n_H13; clear n_H13
          clear hbb hl
          go_wp2_with fail
          go_ret
          exact ⟨rfl, HB.out⟩
        · skip
          clear H9 H11 H13 SY2
          have HPUT := Lib.hid hput; clear hput
          have HAT := Lib.hid hat; clear hat
          obtain ⟨s0, s1, s2, s3, -⟩ := H7.out.cells
          have CON := Lib.hid (show Calls Tryd.prog 23 #[.agg #[.int .i64 Y1.kind, .string Y1.name, .int .i64 Y1.sort, .slice A7 Y1.kids.length c7], .slice Ap p.length cp] z2 (Pair z2 u 0) from by
            have h := at_any Y1 A7 c7 p Ap cp z2 (by have := SY1.out; omega) (by have := HPL.out; omega) H7.out.2 HRP.out
            rw [HPUT.out, Tm.at_put p t u v HAT.out, ← HPUT.out] at h
            exact h.mono fun _ _ h => h.pair)
          go_wp2_with fail
          refine CON.out.mono ?_
          clear CON
          rintro e y15 ⟨A15, c15, rfl, hr, hb⟩
          obtain ⟨X15, hX⟩ : ∃ X, X = y15.alloc (.cells #[.int .i64 u.kind, .string u.name, .int .i64 u.sort, .slice A15 u.kids.length c15] 24) := ⟨_, rfl⟩
          obtain ⟨b15, hbi⟩ : ∃ b, b = y15.heap.size := ⟨_, rfl⟩
          have hbx : BoxT X15 b15 u A15 c15 := by rw [hX, hbi]; exact BoxT.new hr
          have hbb : Below z2.heap.size z2 X15 := by rw [hX]; exact hb.alloc hb.size _
          clear s0 s1 s2 s3
          have n_HRP := HRP.out.go hbb hbb.size
          have n_HB := below_then HB.out hbb HB.out.size
          have n_HXT := HXT.out.below hbb
          have n_HXU := HXU.out.below hbb
          have n_H7 := H7.out.below hbb
          clear HRP HB HXT HXU H7
          have HRP := Lib.hid n_HRP; clear n_HRP
          have HB := Lib.hid n_HB; clear n_HB
          have HXT := Lib.hid n_HXT; clear n_HXT
          have HXU := Lib.hid n_HXU; clear n_HXU
          have H7 := Lib.hid n_H7; clear n_H7
          have H15 := Lib.hid hbx; clear hbx hbb hr hb
          have HX15 := Lib.hid hX; clear hX
          have HBI15 := Lib.hid hbi; clear hbi
          obtain ⟨s0, s1, s2, s3, -⟩ := H15.out.cells
          obtain ⟨u0, u1, u2, u3, -⟩ := HXU.out.cells
          rw [HX15.out] at s0 s1 s2 s3 u0 u1 u2 u3
          have CON := rsame_any u u A15 Au c15 cu X15 (by have := SU.out; omega) (by have := SU.out; omega) H15.out.2 HXU.out.2
          rw [show u.same u = true from Tm.same_iff.2 rfl] at CON
          have CON := Lib.hid CON
          go_wp2_with fail
          rw [← HX15.out, ← HBI15.out]
          refine CON.out.mono ?_
          clear CON
          clear HX15 HBI15
          rintro e z5 ⟨rfl, hl⟩
          have hbb := hl.below
          clear s0 s1 s2 s3 u0 u1 u2 u3
          have n_HRP := HRP.out.go hbb hbb.size
          have n_HB := below_then HB.out hbb HB.out.size
          have n_HXT := HXT.out.below hbb
          have n_HXU := HXU.out.below hbb
          have n_H7 := H7.out.below hbb
          have n_H15 := H15.out.below hbb
          clear HRP HB HXT HXU H7 H15
          have HRP := Lib.hid n_HRP; clear n_HRP
          have HB := Lib.hid n_HB; clear n_HB
          have HXT := Lib.hid n_HXT; clear n_HXT
          have HXU := Lib.hid n_HXU; clear n_HXU
          have H7 := Lib.hid n_H7; clear n_H7
          have H15 := Lib.hid n_H15; clear n_H15
          clear hbb hl
          clear H15 HXU
          obtain ⟨a0, a1, a2, a3, -⟩ := HXT.out.cells
          have CON := Lib.hid (rposs_any 1000000 t A cap z5 (by have := ST.out; omega) (by decide) HXT.out.2)
          simp only [Tm.val] at CON
          go_wp2_with fail
          refine CON.out.mono ?_
          clear CON
          rintro e ws ⟨vq, its, rfl, hrow, hbb, hm⟩
          clear a0 a1 a2 a3
          have n_HRP := HRP.out.go hbb hbb.size
          have n_HB := below_then HB.out hbb HB.out.size
          have n_HXT := HXT.out.below hbb
          have n_H7 := H7.out.below hbb
          clear HRP HB HXT H7
          have HRP := Lib.hid n_HRP; clear n_HRP
          have HB := Lib.hid n_HB; clear n_HB
          have HXT := Lib.hid n_HXT; clear n_HXT
          have H7 := Lib.hid n_H7; clear n_H7
          obtain ⟨Ar, cr, rfl, -⟩ := hrow.form
          have hil : its.length = t.size := by rw [← Tm.poss_length, ← hm, List.length_map]
          rw [hil]
          rw [hil] at hrow
          have hst : t.size ≤ 200 := ST.out
          have HROW := Lib.hid hrow; clear hrow hbb
          have HM := Lib.hid hm; clear hm
          have HIL := Lib.hid hil; clear hil
          go_wp2_with fail
          go_loopw [125] (fun i wr => ∃ k : Nat, k ≤ t.size ∧ i = .int .i64 k ∧ Hid (Below ws.heap.size ws wr)) (fun i _ => t.size - (intOf i).toNat)
          case atStart => exact ⟨0, Nat.zero_le _, rfl, Below.refl _ _⟩
          case round =>
            obtain ⟨k, hk, rfl, HBR⟩ := hrel
            have i1 : (0 : Int) ≤ (k : Int) := Int.natCast_nonneg _
            by_cases hlt : k < t.size
            · have i2 : (k : Int) < (t.size : Int) := by omega
              have hrw := HROW.out.below HBR.out
              have hk1 : k < its.length := by rw [HIL.out]; exact hlt
              obtain ⟨g, rfl, hs⟩ := hrw.slot k hk1
              have hI := hrw.reps its[k] (List.getElem_mem _)
              have hq : t.poss[k]? = some its[k].1 := by rw [← HM.out]; simp [hk1]
              have hka : k < t.all.length := by rw [Tm.all_length]; exact hlt
              have hb : t.all[k]? = some t.all[k] := List.getElem?_eq_getElem hka
              have hg := (hrw.lt g rfl).2
              obtain ⟨X, hX⟩ : ∃ X, X = its[k] := ⟨_, rfl⟩
              obtain ⟨b, hbb⟩ : ∃ b, b = t.all[k] := ⟨_, rfl⟩
              rw [← hX] at hs hI hq
              rw [← hbb] at hb
              clear hX hbb hrw hk1 hka
              obtain ⟨q, Bq, kq⟩ := X
              simp only at hs hI hq
              have hatq := Tm.at_get hq hb
              have hql : q.length ≤ 200 := by have := Tm.poss_len t q (List.mem_of_getElem? hq); omega
              have hbs : b.size ≤ 200 := by have := Tm.mem_all_size t b (List.mem_of_getElem? hb); omega
              have hRQ : RepI wr (fun b => b < wr.heap.size) q Bq kq := (IRep.mono (fun b hb => hb.2.1) (fun _ _ => rfl) hI).toI
              have hRP := HRP.out.go HBR.out HBR.out.size
              have hXT := HXT.out.below HBR.out
              have h7 := H7.out.below HBR.out
              have HATQ := Lib.hid hatq; clear hatq hI hq hb
              have HQL := Lib.hid hql; clear hql
              have HBS := Lib.hid hbs; clear hbs
              have HRQ := Lib.hid hRQ; clear hRQ
              have HRPW := Lib.hid hRP; clear hRP
              have HXTW := Lib.hid hXT; clear hXT
              have H7W := Lib.hid h7; clear h7
              clear hg
              obtain ⟨n, hn⟩ : ∃ n, n = min p.length q.length := ⟨_, rfl⟩
              have hmin : min ((p.length : Nat) : Int) ((q.length : Nat) : Int) = (n : Int) := by omega
              have n0 : (0 : Int) ≤ (n : Int) := Int.natCast_nonneg _
              have hnp : n ≤ p.length := by omega
              have hnq : n ≤ q.length := by omega
              have hcp1 := HRPW.out.1
              have hkq1 := HRQ.out.1
              have n1 : (n : Int) ≤ (cp : Int) := by omega
              have n2 : (n : Int) ≤ (kq : Int) := by omega
              have EQ : Hid (∀ Z, Below wr.heap.size wr Z → Calls Tryd.prog 24 #[.slice Ap n cp, .slice Bq n kq] Z fun e w' => e = .returned (.bool (p.take n == q.take n)) ∧ Lay Z.heap.size Z w') := fun Z h =>
                equal_take p q Ap Bq cp kq n cp kq Z (HRPW.out.go h h.size) (HRQ.out.go h h.size) hnp hnq (by have := HPL.out; omega)
              obtain ⟨bv, hbv⟩ : ∃ bv, bv = (p.take n == q.take n) := ⟨_, rfl⟩
              rw [← hbv] at EQ
              have HBV := Lib.hid hbv; clear hbv
              have HN := Lib.hid hn; clear hn
              clear hnp hnq hcp1 hkq1
              cases bv with
              | true =>
                go_wp2_with fail
                go_quiet_grown ((go_at_call 24; exact quiet_lay (EQ.out _ (Lay.of_grow _ _).below)))
                go_wp2_with fail
                go_roundw
                case rel => exact ⟨k + 1, by omega, by go_num, HBR.out.trans ((Lay.of_grow _ _).below.mono HBR.out.size)⟩
                case measure => simp [intOf]; omega
              | false =>
                have hoth := Tm.at_put_other p q t u v HAT.out (by rw [← HN.out]; exact HBV.out.symm)
                rw [HATQ.out, ← HPUT.out] at hoth
                have HOTH := Lib.hid hoth; clear hoth
                go_wp2_with fail
                go_quiet_grown ((go_at_call 24; exact quiet_lay (EQ.out _ (Lay.of_grow _ _).below)))
                have hbz : Below wr.heap.size wr (grow (wr.drewN nq) osq) := (Lay.of_grow _ _).below
                clear EQ
                generalize grow (wr.drewN nq) osq = Zg at *
                have n_HRQ := HRQ.out.go hbz hbz.size
                have n_HXTW := HXTW.out.below hbz
                have n_H7W := H7W.out.below hbz
                have n_HBR := below_then HBR.out hbz HBR.out.size
                clear HRQ HXTW H7W HBR
                have HRQ := Lib.hid n_HRQ; clear n_HRQ
                have HXTW := Lib.hid n_HXTW; clear n_HXTW
                have H7W := Lib.hid n_H7W; clear n_H7W
                have HBR := Lib.hid n_HBR; clear n_HBR
                clear hbz
                obtain ⟨s0, s1, s2, s3, -⟩ := H7W.out.cells
                have CON := Lib.hid (show Calls Tryd.prog 23 #[.agg #[.int .i64 Y1.kind, .string Y1.name, .int .i64 Y1.sort, .slice A7 Y1.kids.length c7], .slice Bq q.length kq] Zg (Pair Zg b 0) from by
                  have h := at_any Y1 A7 c7 q Bq kq Zg (by have := SY1.out; omega) (by have := HQL.out; omega) H7W.out.2 HRQ.out
                  rw [HOTH.out] at h
                  exact h.mono fun _ _ h => h.pair)
                go_wp2_with fail
                refine CON.out.mono ?_
                clear CON
                rintro e y20 ⟨A20, c20, rfl, hr, hb⟩
                obtain ⟨X20, hX⟩ : ∃ X, X = y20.alloc (.cells #[.int .i64 b.kind, .string b.name, .int .i64 b.sort, .slice A20 b.kids.length c20] 24) := ⟨_, rfl⟩
                obtain ⟨b20, hbi⟩ : ∃ b, b = y20.heap.size := ⟨_, rfl⟩
                have hbx : BoxT X20 b20 b A20 c20 := by rw [hX, hbi]; exact BoxT.new hr
                have hbb : Below Zg.heap.size Zg X20 := by rw [hX]; exact hb.alloc hb.size _
                clear s0 s1 s2 s3
                have n_HRQ := HRQ.out.go hbb hbb.size
                have n_HXTW := HXTW.out.below hbb
                have n_H7W := H7W.out.below hbb
                have n_HBR := below_then HBR.out hbb HBR.out.size
                clear HRQ HXTW H7W HBR
                have HRQ := Lib.hid n_HRQ; clear n_HRQ
                have HXTW := Lib.hid n_HXTW; clear n_HXTW
                have H7W := Lib.hid n_H7W; clear n_H7W
                have HBR := Lib.hid n_HBR; clear n_HBR
                have H20 := Lib.hid hbx; clear hbx hbb hr hb
                have HX20 := Lib.hid hX; clear hX
                have HBI20 := Lib.hid hbi; clear hbi
                obtain ⟨a0, a1, a2, a3, -⟩ := HXTW.out.cells
                rw [HX20.out] at a0 a1 a2 a3
                have CON := Lib.hid (show Calls Tryd.prog 36 #[.agg #[.int .i64 t.kind, .string t.name, .int .i64 t.sort, .slice A t.kids.length cap], .slice Bq q.length kq] X20 (Pair X20 b 0) from by
                  have h := rat_any t A cap q Bq kq X20 (by have := ST.out; omega) (by have := HQL.out; omega) HXTW.out.2 HRQ.out
                  rw [HATQ.out] at h
                  exact h.mono fun _ _ h => h.pair)
                go_wp2_with fail
                rw [← HX20.out, ← HBI20.out]
                refine CON.out.mono ?_
                clear CON
                clear HX20 HBI20
                rintro e y22 ⟨A22, c22, rfl, hr, hb⟩
                obtain ⟨X22, hX⟩ : ∃ X, X = y22.alloc (.cells #[.int .i64 b.kind, .string b.name, .int .i64 b.sort, .slice A22 b.kids.length c22] 24) := ⟨_, rfl⟩
                obtain ⟨b22, hbi⟩ : ∃ b, b = y22.heap.size := ⟨_, rfl⟩
                have hbx : BoxT X22 b22 b A22 c22 := by rw [hX, hbi]; exact BoxT.new hr
                have hbb : Below X20.heap.size X20 X22 := by rw [hX]; exact hb.alloc hb.size _
                clear a0 a1 a2 a3
                have n_HRQ := HRQ.out.go hbb hbb.size
                have n_HXTW := HXTW.out.below hbb
                have n_H7W := H7W.out.below hbb
                have n_HBR := below_then HBR.out hbb HBR.out.size
                have n_H20 := H20.out.below hbb
                clear HRQ HXTW H7W HBR H20
                have HRQ := Lib.hid n_HRQ; clear n_HRQ
                have HXTW := Lib.hid n_HXTW; clear n_HXTW
                have H7W := Lib.hid n_H7W; clear n_H7W
                have HBR := Lib.hid n_HBR; clear n_HBR
                have H20 := Lib.hid n_H20; clear n_H20
                have H22 := Lib.hid hbx; clear hbx hbb hr hb
                have HX22 := Lib.hid hX; clear hX
                have HBI22 := Lib.hid hbi; clear hbi
                obtain ⟨s0, s1, s2, s3, -⟩ := H20.out.cells
                obtain ⟨q0, q1, q2, q3, -⟩ := H22.out.cells
                rw [HX22.out] at s0 s1 s2 s3 q0 q1 q2 q3
                have CON := rsame_any b b A20 A22 c20 c22 X22 (by have := HBS.out; omega) (by have := HBS.out; omega) H20.out.2 H22.out.2
                rw [show b.same b = true from Tm.same_iff.2 rfl] at CON
                have CON := Lib.hid CON
                go_wp2_with fail
                rw [← HX22.out, ← HBI22.out]
                refine CON.out.mono ?_
                clear CON
                clear HX22 HBI22
                rintro e z9 ⟨rfl, hl⟩
                have hbb := hl.below
                clear s0 s1 s2 s3 q0 q1 q2 q3
                have n_HRQ := HRQ.out.go hbb hbb.size
                have n_HXTW := HXTW.out.below hbb
                have n_H7W := H7W.out.below hbb
                have n_HBR := below_then HBR.out hbb HBR.out.size
                have n_H20 := H20.out.below hbb
                have n_H22 := H22.out.below hbb
                clear HRQ HXTW H7W HBR H20 H22
                have HRQ := Lib.hid n_HRQ; clear n_HRQ
                have HXTW := Lib.hid n_HXTW; clear n_HXTW
                have H7W := Lib.hid n_H7W; clear n_H7W
                have HBR := Lib.hid n_HBR; clear n_HBR
                have H20 := Lib.hid n_H20; clear n_H20
                have H22 := Lib.hid n_H22; clear n_H22
                clear hbb hl
                go_wp2_with fail
                go_roundw
                case rel => exact ⟨k + 1, by omega, by go_num, HBR.out⟩
                case measure => simp [intOf]; omega
            · obtain rfl : k = t.size := by omega
              go_wp2_with fail
              go_ret
              exact ⟨rfl, below_then HB.out HBR.out HB.out.size⟩
  · rw [decide_eq_false hle]
    go_wp2_with fail
    refine (awake_any w2 HW.out).mono ?_
    rintro e w3 ⟨rfl, hb3⟩
    go_wp2_with fail
    go_ret
    exact ⟨rfl, below_then HB.out hb3 HB.out.size⟩
end Go.Proofs.YtbgkabgbgbebaaaDoor
