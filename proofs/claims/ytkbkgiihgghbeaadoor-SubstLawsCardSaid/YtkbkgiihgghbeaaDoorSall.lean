/- subst.All and the reference's All. -/
import Derived.Test.YtkbkgiihgghbeaaDoorSrapply
namespace Go.Proofs.YtkbkgiihgghbeaaDoor
open Go.RowKit Go.Sort

/-- the first error of an application -/
def errT (s : List Bd) : List Tm → Int
  | [] => 0
  | t :: r => if (applyE s t).2 ≠ 0 then (applyE s t).2 else errT s r
def allE (s : List Bd) (l : List Tm) : List Tm × Int :=
  if validS s ≠ 0 then ([], validS s) else if 200 < l.length then ([], 3) else if errT s l ≠ 0 then ([], errT s l) else (l.map (Tm.put s), 0)
theorem errT_drop (s : List Bd) (l : List Tm) (k : Nat) (h : k < l.length) : errT s (l.drop k) = if (applyE s l[k]).2 ≠ 0 then (applyE s l[k]).2 else errT s (l.drop (k + 1)) := by
  rw [List.drop_eq_getElem_cons h, errT]
theorem applyE_ok {s : List Bd} {t u : Tm} {n : Int} (h : (u, n) = applyE s t) (h0 : n = 0) : u = t.put s ∧ u.size ≤ 400 ∧ t.valid = 0 := by
  unfold applyE at h
  split at h
  · rename_i g; injection h with _ g2; exact absurd (g2.symm.trans h0) g
  · rename_i g0
    split at h
    · rename_i g; injection h with _ g2; exact absurd (g2.symm.trans h0) g
    · rename_i g; injection h with g1 _; exact ⟨g1, by rw [g1]; exact valid_size (by simpa using g), by simpa using g0⟩

/-- one term appended to a row, out of a block that is laid for it; the terms may lie anywhere but in the row's own block -/
theorem rowT_more2 {w : World} {base : Nat} {v : Value} {its : List It} (hrow : RowT w base (fun _ => True) v its) (hbase : base ≤ w.heap.size) (X : It) (hX : RepP w (fun b => b < w.heap.size ∧ v.ownBlock ≠ some b) X.1 X.2.1 X.2.2) (hlen : its.length + 1 ≤ 100000000) :
    ∃ A' c' w', (∀ ty, (Builtin.append_ #[28, 28] ty #[v, .slice (some ⟨w.heap.size, 0, none⟩) 1 1]).run Tryd.prog (w.alloc (.cells #[.int .i64 X.1.kind, .string X.1.name, .int .i64 X.1.sort, .slice X.2.1 X.1.kids.length X.2.2] 30)) = .ok (.slice A' (its.length + 1) c') w') ∧
      RowT w' base (fun _ => True) (.slice A' (its.length + 1) c') (its ++ [X]) ∧ w.heap.size ≤ w'.heap.size ∧ (∀ W0 B0, Below B0 W0 w → B0 ≤ base → Below B0 W0 w') := by
  have hb := below1 (Nat.le_refl w.heap.size) (.cells #[.int .i64 X.1.kind, .string X.1.name, .int .i64 X.1.sort, .slice X.2.1 X.1.kids.length X.2.2] 30)
  obtain ⟨g, cap, w', e1, e2, e3, e4⟩ := (hrow.below hb).grow1 (by simp; omega) X w.heap.size 1 (0, 0) (heap_alloc_new _ _)
    (RepP.mono (fun b ⟨h1, h2⟩ => ⟨trivial, by simp; omega, h2⟩) (fun p ⟨h1, _⟩ => hb.cell h1) _ _ _ hX) hlen
  refine ⟨_, cap, w', e1, e2, by have := e3.size; simp at this; omega, fun W0 B0 hB hB0 => ?_⟩
  exact below_of_grown (hB.alloc (by omega) _) (by simp; omega) e3 (fun k hk => by have := (hrow.lt k hk).1; omega)

/-- what stands in the world when a round begins -/
structure TRel (w : World) (l : List Tm) (v : Value) (wr : World) : Prop where
  rep : ∃ (m c : Nat) (A : Option Addr) (its : List It), v = .slice A m c ∧ m = its.length ∧ RowT wr w.heap.size (fun _ => True) (.slice A m c) its ∧ its.map (·.1) = l
  bw : Below w.heap.size w wr
/-- what All gives -/
def Alled (r : List Tm × Int) (w : World) (e : Ending) (w' : World) : Prop :=
  ∃ A c, e = .returned (.tuple #[.slice A r.1.length c, .int .i64 r.2]) ∧ RepS w' (fun b => b < w'.heap.size) r.1 A c ∧ Below w.heap.size w w'
theorem alled_err {w w' : World} {n : Int} (h : Below w.heap.size w w') : Alled ([], n) w (.returned (.tuple #[.slice none 0 0, .int .i64 n])) w' :=
  ⟨none, 0, rfl, ⟨Nat.le_refl _, by simp [maxLen], .inl rfl⟩, h⟩
theorem TRel.alled {w wr : World} {l : List Tm} {A : Option Addr} {m c : Nat} (h : TRel w l (.slice A m c) wr) : Alled (l, 0) w (.returned (.tuple #[.slice A m c, .int .i64 0])) wr := by
  obtain ⟨⟨m', c', A', its, hv, hm, hrow, hits⟩, hb⟩ := h
  injection hv with h1 h2 h3
  subst h1 h2 h3
  obtain ⟨A1, c1, he, hS⟩ := hrow.toS (P := fun b => b < wr.heap.size) (fun b _ h => h) (fun b _ h => h)
  injection he with he1 _ he3
  subst he1 he3
  rw [hits] at hS
  have hl : m = l.length := by rw [← hits, List.length_map]; exact hm
  subst hl
  exact ⟨A, c, rfl, hS, hb⟩

set_option maxHeartbeats 1000000 in
set_option maxRecDepth 100000 in
theorem sall_any (s : List Bd) (l : List Tm) (S0 L0 : Option Addr) (sc lc : Nat) (w : World) (hsz : SizeB s) (hlz : ∀ t ∈ l, t.size ≤ 1000000) (hrs : RepB w (fun b => b < w.heap.size) s S0 sc) (hrl : RepS w (fun b => b < w.heap.size) l L0 lc) :
    Calls Tryd.prog 25 #[.slice S0 s.length sc, .slice L0 l.length lc] w (Alled (allE s l) w) := by
  have mixed : Tryd.prog.follows .mixedOrders = true := by kernel_rfl
  have VS := svalid_any s S0 sc w hsz hrs
  obtain ⟨r, hr⟩ : ∃ r, r = allE s l := ⟨_, rfl⟩
  rw [← hr]
  unfold allE at hr
  obtain ⟨vs, hvs⟩ : ∃ v, v = validS s := ⟨_, rfl⟩
  rw [← hvs] at hr VS
  have VS := Lib.hid VS
  have HR := Lib.hid hr; clear hr
  have HVS := Lib.hid hvs; clear hvs
  have hl1 := hrl.2.1
  have hl2 := hrl.1
  unfold maxLen at hl1
  have HRS := Lib.hid hrs; clear hrs
  have HRL := Lib.hid hrl; clear hrl
  have HLZ := Lib.hid hlz; clear hlz
  have HSZ := Lib.hid hsz; clear hsz
  go_enter Tryd.func25, Tryd.ntmps25
  go_wp2_with fail
  refine VS.out.mono ?_; clear VS
  rintro e w1 ⟨rfl, hw1⟩
  rcases eq_facts vs 0 with ⟨h0, e0, n0⟩ | ⟨h0, e0, n0⟩
  rotate_left
  · have hr := HR.out.trans (if_pos h0)
    subst hr
    clear HR h0
    go_wp2_with fail
    go_ret2
    exact alled_err hw1.below
  subst h0
  have HR1 := Lib.hid (HR.out.trans (if_neg (by simp))); clear HR
  by_cases hbig : 200 < l.length
  · have hr := HR1.out.trans (if_pos hbig)
    subst hr
    clear HR1
    go_wp2_with fail
    go_ret2
    exact alled_err hw1.below
  have HR2 := Lib.hid (HR1.out.trans (if_neg hbig)); clear HR1
  have HW1 := Lib.hid hw1; clear hw1
  go_wp2_with fail
  go_loopw [7, 22] (fun v i wr => ∃ k : Nat, k ≤ l.length ∧ i = .int .i64 k ∧ Hid (TRel w ((l.take k).map (Tm.put s)) v wr) ∧ Hid (errT s l = errT s (l.drop k))) (fun _ i _ => l.length - (intOf i).toNat)
  case atStart => exact ⟨0, Nat.zero_le _, rfl, ⟨⟨0, 0, none, [], rfl, rfl, RowT.nil _ _ _, rfl⟩, HW1.out.below⟩, rfl⟩
  case round =>
    obtain ⟨k, hk, rfl, HC, HE⟩ := hrel
    have i1 : (0 : Int) ≤ (k : Int) := Int.natCast_nonneg _
    by_cases hlt : k < l.length
    · have i2 : (k : Int) < (l.length : Int) := by omega
      obtain ⟨⟨m, c0, A0, its, rfl, hm, hrow, hits⟩, hbw⟩ := HC.out
      clear HC
      rcases HRL.out.2.2 with h | ⟨kb, off, hL0, hbB, hl⟩
      · rw [h] at hlt; simp at hlt
      subst hL0
      have hlr : RepLP wr (fun b => b < w.heap.size) l kb off := RepLP.mono (fun _ h => h) (fun p hp => hbw.cell hp) _ _ _ hbB hl
      obtain ⟨A, c, a0, a1, a2, a3, hra⟩ := hlr.get k hlt
      have hws := hbw.size
      have ht := HLZ.out l[k] (List.getElem_mem hlt)
      obtain ⟨V, hV⟩ : ∃ V, V = wr.alloc (.cells #[.int .i64 l[k].kind, .string l[k].name, .int .i64 l[k].sort, .slice A l[k].kids.length c] 30) := ⟨_, rfl⟩
      have hB : Below wr.heap.size wr V := by rw [hV]; exact below1 (Nat.le_refl _) _
      have hsV : V.heap.size = wr.heap.size + 1 := by rw [hV]; simp
      have hvb : V.heap[wr.heap.size]? = some (.cells #[.int .i64 l[k].kind, .string l[k].name, .int .i64 l[k].sort, .slice A l[k].kids.length c] 30 (0, 0)) := by rw [hV]; exact heap_alloc_new _ _
      have AP := sapply_any s S0 sc HVS.out.symm l[k] A c V ht (HRS.out.mono (fun b (h : b < w.heap.size) => by omega) (fun p (hp : p.block < w.heap.size) => (hB.cell (by omega)).trans (hbw.cell hp))) (RepP.mono (fun b (h : b < w.heap.size) => by omega) (fun p (hp : p.block < w.heap.size) => hB.cell (by omega)) _ _ _ hra)
      have hst := errT_drop s l k hlt
      rw [← HE.out] at hst
      obtain ⟨q, hq⟩ : ∃ q, q = applyE s l[k] := ⟨_, rfl⟩
      rw [← hq] at AP hst
      have HAP := Lib.hid hq; clear hq
      have HST := Lib.hid hst; clear hst
      have HROW := Lib.hid hrow; clear hrow
      have HITS := Lib.hid hits; clear hits
      have HBW := Lib.hid hbw; clear hbw
      have HM := Lib.hid hm; clear hm hlr hl hra
      have HVB := Lib.hid hvb; clear hvb
      have HB := Lib.hid hB; clear hB
      have HV := Lib.hid hV; clear hV
      simp only [Tm.val] at AP
      go_wp2_with fail
      rw [← HV.out]
      obtain ⟨d0, d1, d2, d3, -⟩ := box_at HVB.out
      go_wp2_with fail
      refine AP.mono ?_; clear AP a0 a1 a2 a3 d0 d1 d2 d3 HV
      rintro e w3 ⟨A3, c3, rfl, hrep3, hb3⟩
      have hs3 := hb3.size
      obtain ⟨u, n⟩ := q
      obtain ⟨X, hX⟩ : ∃ X, X = w3.alloc (.cells #[.int .i64 u.kind, .string u.name, .int .i64 u.sort, .slice A3 u.kids.length c3] 30) := ⟨_, rfl⟩
      have hbX : Below w3.heap.size w3 X := by rw [hX]; exact below1 (Nat.le_refl _) _
      have hsX : X.heap.size = w3.heap.size + 1 := by rw [hX]; simp
      have hux : X.heap[w3.heap.size]? = some (.cells #[.int .i64 u.kind, .string u.name, .int .i64 u.sort, .slice A3 u.kids.length c3] 30 (0, 0)) := by rw [hX]; exact heap_alloc_new _ _
      have hbXr : Below wr.heap.size wr X := below_then (below_then HB.out hb3 HB.out.size) hbX (by omega)
      have hrepX : RepP X (fun b => V.heap.size ≤ b ∧ b < w3.heap.size) u A3 c3 := RepP.mono (fun _ h => h) (fun p ⟨_, hp⟩ => hbX.cell hp) _ _ _ hrep3
      have HX := Lib.hid hX; clear hX
      have HUX := Lib.hid hux; clear hux
      have HBR := Lib.hid hbXr; clear hbXr hbX
      have HREP := Lib.hid hrepX; clear hrepX hrep3 hb3
      simp only [Tm.val]
      rcases eq_facts n 0 with ⟨h0, e2, n2⟩ | ⟨h0, e2, n2⟩
      rotate_left
      · have he : errT s l = n := HST.out.trans (if_pos h0)
        have hr := HR2.out.trans (if_pos (by rw [he]; exact h0))
        rw [he] at hr
        subst hr
        clear HR2 he HST HE h0
        go_wp2_with fail
        go_ret2
        rw [← HX.out]
        exact alled_err (HBW.out.trans (HBR.out.mono hws))
      have HE2 := Lib.hid (HST.out.trans (if_neg (by simpa using h0))); clear HST HE
      obtain ⟨hu, -, -⟩ := applyE_ok HAP.out h0
      clear h0
      obtain ⟨A5, c5, w5, hap, hr5, hg5, hb5⟩ := rowT_more2 (HROW.out.below HBR.out) (Nat.le_trans hws HBR.out.size) (u, A3, c3)
        (RepP.mono (fun b ⟨h1, h2⟩ => ⟨by omega, fun e => by have := (HROW.out.lt b e).2; omega⟩) (fun _ _ => rfl) _ _ _ HREP.out) (by
          have h := congrArg List.length HITS.out
          simp at h; omega)
      rw [← HM.out] at hap hr5
      have HR5 := Lib.hid hr5; clear hr5
      have HB5 := Lib.hid (hb5 _ _ (HBW.out.trans (HBR.out.mono hws)) (Nat.le_refl _)); clear hb5 hg5
      have HNX : Hid ((its ++ [(u, A3, c3)]).map (·.1) = (l.take (k + 1)).map (Tm.put s)) := by
        rw [List.map_append, HITS.out, List.take_succ_eq_append_getElem hlt, List.map_append, hu]; rfl
      clear hu
      obtain ⟨d0, d1, d2, d3, -⟩ := box_at HUX.out
      dsimp only at hap
      rw [HX.out] at d0 d1 d2 d3 hap
      rw [World.size_alloc] at hap
      go_wp2_with (at_builtin; refine wpList_run_append rfl _ _ rfl rfl rfl hap ?_)
      go_roundw
      case rel => exact ⟨k + 1, by omega, by go_num, ⟨⟨_, c5, A5, _, rfl, by rw [List.length_append, ← HM.out]; rfl, HR5.out, HNX.out⟩, HB5.out⟩, HE2.out⟩
      case measure => simp [intOf]; omega
    · obtain rfl : k = l.length := by omega
      have hE : errT s l = 0 := by have := HE.out; rw [List.drop_length] at this; exact this
      have hr := HR2.out.trans (if_neg (by rw [hE]; simp))
      obtain ⟨m, c0, A0, its, rfl, -⟩ := HC.out.rep
      rw [List.take_length] at HC
      subst hr
      clear HR2 HE hE
      go_wp2_with fail
      go_ret2
      exact HC.out.alled

set_option maxHeartbeats 1000000 in
set_option maxRecDepth 100000 in
theorem rallS_any (s : List Bd) (l : List Tm) (S0 L0 : Option Addr) (sc lc : Nat) (w : World) (hsz : SizeB s) (hlz : ∀ t ∈ l, t.size ≤ 1000000) (hrs : RepB w (fun b => b < w.heap.size) s S0 sc) (hrl : RepS w (fun b => b < w.heap.size) l L0 lc) :
    Calls Tryd.prog 26 #[.slice S0 s.length sc, .slice L0 l.length lc] w (Alled (allE s l) w) := by
  have mixed : Tryd.prog.follows .mixedOrders = true := by kernel_rfl
  have VS := rsvalid_any s S0 sc w hsz hrs
  obtain ⟨r, hr⟩ : ∃ r, r = allE s l := ⟨_, rfl⟩
  rw [← hr]
  unfold allE at hr
  obtain ⟨vs, hvs⟩ : ∃ v, v = validS s := ⟨_, rfl⟩
  rw [← hvs] at hr VS
  have VS := Lib.hid VS
  have HR := Lib.hid hr; clear hr
  have HVS := Lib.hid hvs; clear hvs
  have hl1 := hrl.2.1
  have hl2 := hrl.1
  unfold maxLen at hl1
  have HRS := Lib.hid hrs; clear hrs
  have HRL := Lib.hid hrl; clear hrl
  have HLZ := Lib.hid hlz; clear hlz
  have HSZ := Lib.hid hsz; clear hsz
  go_enter Tryd.func26, Tryd.ntmps26
  go_wp2_with fail
  refine VS.out.mono ?_; clear VS
  rintro e w1 ⟨rfl, hw1⟩
  rcases eq_facts vs 0 with ⟨h0, e0, n0⟩ | ⟨h0, e0, n0⟩
  rotate_left
  · have hr := HR.out.trans (if_pos h0)
    subst hr
    clear HR h0
    go_wp2_with fail
    go_ret2
    exact alled_err hw1.below
  subst h0
  have HR1 := Lib.hid (HR.out.trans (if_neg (by simp))); clear HR
  by_cases hbig : 200 < l.length
  · have hr := HR1.out.trans (if_pos hbig)
    subst hr
    clear HR1
    go_wp2_with fail
    go_ret2
    exact alled_err hw1.below
  have HR2 := Lib.hid (HR1.out.trans (if_neg hbig)); clear HR1
  have HW1 := Lib.hid hw1; clear hw1
  go_wp2_with fail
  go_loopw [7, 8] (fun v i wr => ∃ k : Nat, k ≤ l.length ∧ i = .int .i64 k ∧ Hid (TRel w ((l.take k).map (Tm.put s)) v wr) ∧ Hid (errT s l = errT s (l.drop k))) (fun _ i _ => l.length - (intOf i).toNat)
  case atStart => exact ⟨0, Nat.zero_le _, rfl, ⟨⟨0, 0, none, [], rfl, rfl, RowT.nil _ _ _, rfl⟩, HW1.out.below⟩, rfl⟩
  case round =>
    obtain ⟨k, hk, rfl, HC, HE⟩ := hrel
    have i1 : (0 : Int) ≤ (k : Int) := Int.natCast_nonneg _
    by_cases hlt : k < l.length
    · have i2 : (k : Int) < (l.length : Int) := by omega
      obtain ⟨⟨m, c0, A0, its, rfl, hm, hrow, hits⟩, hbw⟩ := HC.out
      clear HC
      rcases HRL.out.2.2 with h | ⟨kb, off, hL0, hbB, hl⟩
      · rw [h] at hlt; simp at hlt
      subst hL0
      have hlr : RepLP wr (fun b => b < w.heap.size) l kb off := RepLP.mono (fun _ h => h) (fun p hp => hbw.cell hp) _ _ _ hbB hl
      obtain ⟨A, c, a0, a1, a2, a3, hra⟩ := hlr.get k hlt
      have hws := hbw.size
      have ht := HLZ.out l[k] (List.getElem_mem hlt)
      have AP := rApply_any w.heap.size s S0 sc HSZ.out l[k] A c wr ht hws (HRS.out.mono (fun _ h => h) (fun p hp => hbw.cell hp)) hra
      have hae : ApplyE s l[k] = applyE s l[k] := if_neg (by rw [← HVS.out]; simp)
      rw [hae] at AP
      clear hae
      have hst := errT_drop s l k hlt
      rw [← HE.out] at hst
      obtain ⟨q, hq⟩ : ∃ q, q = applyE s l[k] := ⟨_, rfl⟩
      rw [← hq] at AP hst
      have HAP := Lib.hid hq; clear hq
      have HST := Lib.hid hst; clear hst
      have HROW := Lib.hid hrow; clear hrow
      have HITS := Lib.hid hits; clear hits
      have HBW := Lib.hid hbw; clear hbw
      have HM := Lib.hid hm; clear hm hlr hl hra
      simp only [Tm.val] at AP
      go_wp2_with fail
      refine AP.mono ?_; clear AP a0 a1 a2 a3
      rintro e w3 ⟨A3, c3, rfl, hrep3, hb3⟩
      have hs3 := hb3.size
      obtain ⟨u, n⟩ := q
      obtain ⟨X, hX⟩ : ∃ X, X = w3.alloc (.cells #[.int .i64 u.kind, .string u.name, .int .i64 u.sort, .slice A3 u.kids.length c3] 30) := ⟨_, rfl⟩
      have hbX : Below w3.heap.size w3 X := by rw [hX]; exact below1 (Nat.le_refl _) _
      have hsX : X.heap.size = w3.heap.size + 1 := by rw [hX]; simp
      have hux : X.heap[w3.heap.size]? = some (.cells #[.int .i64 u.kind, .string u.name, .int .i64 u.sort, .slice A3 u.kids.length c3] 30 (0, 0)) := by rw [hX]; exact heap_alloc_new _ _
      have hbXr : Below wr.heap.size wr X := below_then hb3 hbX hs3
      have hrepX : RepP X (fun b => b < w.heap.size ∨ wr.heap.size ≤ b ∧ b < w3.heap.size) u A3 c3 := RepP.mono (fun _ h => h) (fun p h => hbX.cell (by rcases h with h | ⟨_, h⟩ <;> omega)) _ _ _ hrep3
      have HX := Lib.hid hX; clear hX
      have HUX := Lib.hid hux; clear hux
      have HBR := Lib.hid hbXr; clear hbXr hbX
      have HREP := Lib.hid hrepX; clear hrepX hrep3 hb3
      simp only [Tm.val]
      rcases eq_facts n 0 with ⟨h0, e2, n2⟩ | ⟨h0, e2, n2⟩
      rotate_left
      · have he : errT s l = n := HST.out.trans (if_pos h0)
        have hr := HR2.out.trans (if_pos (by rw [he]; exact h0))
        rw [he] at hr
        subst hr
        clear HR2 he HST HE h0
        go_wp2_with fail
        go_ret2
        rw [← HX.out]
        exact alled_err (HBW.out.trans (HBR.out.mono hws))
      have HE2 := Lib.hid (HST.out.trans (if_neg (by simpa using h0))); clear HST HE
      obtain ⟨hu, -, -⟩ := applyE_ok HAP.out h0
      clear h0
      obtain ⟨A5, c5, w5, hap, hr5, hg5, hb5⟩ := rowT_more2 (HROW.out.below HBR.out) (Nat.le_trans hws HBR.out.size) (u, A3, c3)
        (RepP.mono (fun b h => ⟨by rcases h with h | ⟨_, h⟩ <;> omega, fun e => by have := HROW.out.lt b e; omega⟩) (fun _ _ => rfl) _ _ _ HREP.out) (by
          have h := congrArg List.length HITS.out
          simp at h; omega)
      rw [← HM.out] at hap hr5
      have HR5 := Lib.hid hr5; clear hr5
      have HB5 := Lib.hid (hb5 _ _ (HBW.out.trans (HBR.out.mono hws)) (Nat.le_refl _)); clear hb5 hg5
      have HNX : Hid ((its ++ [(u, A3, c3)]).map (·.1) = (l.take (k + 1)).map (Tm.put s)) := by
        rw [List.map_append, HITS.out, List.take_succ_eq_append_getElem hlt, List.map_append, hu]; rfl
      clear hu
      obtain ⟨d0, d1, d2, d3, -⟩ := box_at HUX.out
      dsimp only at hap
      rw [HX.out] at d0 d1 d2 d3 hap
      rw [World.size_alloc] at hap
      go_wp2_with (at_builtin; refine wpList_run_append rfl _ _ rfl rfl rfl hap ?_)
      go_roundw
      case rel => exact ⟨k + 1, by omega, by go_num, ⟨⟨_, c5, A5, _, rfl, by rw [List.length_append, ← HM.out]; rfl, HR5.out, HNX.out⟩, HB5.out⟩, HE2.out⟩
      case measure => simp [intOf]; omega
    · obtain rfl : k = l.length := by omega
      have hE : errT s l = 0 := by have := HE.out; rw [List.drop_length] at this; exact this
      have hr := HR2.out.trans (if_neg (by rw [hE]; simp))
      obtain ⟨m, c0, A0, its, rfl, -⟩ := HC.out.rep
      rw [List.take_length] at HC
      subst hr
      clear HR2 HE hE
      go_wp2_with fail
      go_ret2
      exact HC.out.alled
end Go.Proofs.YtkbkgiihgghbeaaDoor
