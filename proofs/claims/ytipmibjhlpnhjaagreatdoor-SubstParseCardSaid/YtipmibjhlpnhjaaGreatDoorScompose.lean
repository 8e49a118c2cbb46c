/- subst.Compose. -/
import Derived.Test.YtipmibjhlpnhjaaGreatDoorScomp
namespace Go.Proofs.YtipmibjhlpnhjaaGreatDoor
open Go.RowKit Go.Sort

/-- one binding appended to a row of the call's own, at a bare operation -/
theorem wp_pushB {w : World} {o : Oper} {a : Act} {K : Act → World → Prop} {Q : Exit → Act → World → Prop} (_hgd : o.guard = none) (s x : Operand)
    (ho : o.op = .call { callee := .builtin .append, args := #[s, x], argTypes := #[27, 27] })
    (base : Nat) (F : Nat → Prop) (v : Value) (its : List IB) (hs : a.eval s = v) (hrow : RowB w base F v its)
    (X : IB) (B c : Nat) (fr : Nat × Nat) (hx : a.eval x = .slice (some ⟨B, 0, none⟩) 1 c) (hB : w.heap[B]? = some (.cells (bCells [X]).toArray 53 fr))
    (hX1 : RepP w (fun b => F b ∧ b < w.heap.size ∧ v.ownBlock ≠ some b) X.1.1 X.1.2.1 X.1.2.2) (hX2 : RepP w (fun b => F b ∧ b < w.heap.size ∧ v.ownBlock ≠ some b) X.2.1 X.2.2.1 X.2.2.2) (hlen : its.length + 1 ≤ 100000000) (hbase : base ≤ w.heap.size)
    (h : ∀ g cap w', RowB w' base F (.slice (some ⟨g, 0, none⟩) (its.length + 1) cap) (its ++ [X]) → w.grownBy w' v.ownBlock → base ≤ g → K (a.put o.dst (.slice (some ⟨g, 0, none⟩) (its.length + 1) cap)) w') :
    Oper.wp Tryz.prog o a w K Q := by
  obtain ⟨i0, hi0, hz0, hz1, hz2⟩ := info_parts bindInfo
  refine wp_append_lies w s x _ ho base _ i0 _ 8 112 Tryz.underlying27 hi0 hz0 hz1 hz2 rfl (by omega) v its.length (bCells its) hs hrow.own ⟨B, 0, none⟩ 1 c (bCells [X]) hx (by rw [bCells_length]; rfl)
    (fun j u hu => World.news_of_block hB j u (by simpa using hu)) (bCells_one [X]) (by omega) (by unfold maxLen; omega) (by omega) hbase w.heap.size rfl ?_
  intro g cap w' h2 h3 h4 h5
  have hg : g = w.heap.size ∨ v.ownBlock = some g := by rcases h4 with h | h; exact .inr h; exact .inl h
  have hR : RowB w' base F (.slice (some ⟨g, 0, none⟩) (its.length + 1) cap) (its ++ [X]) := by
    refine ⟨by rw [bCells_append, List.length_append]; exact h2, fun x hx => ?_⟩
    have key : ∀ (t : Tm) A c, RepP w (fun b => F b ∧ b < w.heap.size ∧ v.ownBlock ≠ some b) t A c → RepP w' (fun b => F b ∧ b < w'.heap.size ∧ (Value.slice (some ⟨g, 0, none⟩) (its.length + 1) cap).ownBlock ≠ some b) t A c := fun t A c hr => by
      refine RepP.mono ?_ ?_ _ _ _ hr
      · rintro b ⟨k1, k2, k3⟩
        refine ⟨k1, Nat.lt_of_lt_of_le k2 h3.size, fun e => ?_⟩
        have e' : g = b := by injection e
        rcases hg with h | h
        · omega
        · rw [e'] at h; exact k3 h
      · rintro p ⟨k1, k2, k3⟩
        exact World.cell?_of_block (h3.block p.block k2 (fun e => k3 e.symm))
    rcases List.mem_append.1 hx with hx | hx
    · exact ⟨key _ _ _ (hrow.reps x hx).1, key _ _ _ (hrow.reps x hx).2⟩
    · obtain rfl : x = X := by simpa using hx
      exact ⟨key _ _ _ hX1, key _ _ _ hX2⟩
  exact h g cap w' hR h3 (hR.lt g rfl).1

def Composed (r : List Bd × Int) (w : World) (e : Ending) (w' : World) : Prop :=
  ∃ A c, e = .returned (.tuple #[.slice A r.1.length c, .int .i64 r.2]) ∧ RepB w' (fun b => w.heap.size ≤ b ∧ b < w'.heap.size) r.1 A c ∧ Below w.heap.size w w'
theorem composed_err {w w' : World} {n : Int} (h : Below w.heap.size w w') : Composed ([], n) w (.returned (.tuple #[.slice none 0 0, .int .i64 n])) w' :=
  ⟨none, 0, rfl, ⟨Nat.le_refl _, by simp [maxLen], .inl rfl⟩, h⟩
/-- what stands in the world when a round begins -/
def CRel (w : World) (l : List Bd) (v : Value) (wr : World) : Prop :=
  ∃ (m c : Nat) (A : Option Addr) (its : List IB), v = .slice A m c ∧ m = its.length ∧ RowB wr w.heap.size (fun b => w.heap.size ≤ b) (.slice A m c) its ∧ its.map IB.bd = l ∧ Below w.heap.size w wr

theorem bsort_row (w : World) (base : Nat) (F : Nat → Prop) (A : Option Addr) (cap n : Nat) (its : List IB) (hn : n = its.length) (hn2 : n ≤ 10000000) (hrow : RowB w base F (.slice A n cap) its) (hsz : ∀ x ∈ its, x.1.1.size ≤ 1000000) :
    Calls Tryz.prog 109 #[.slice A n cap, .func (.func 110) #[] #[]] w (fun e w' => e = .returned (.tuple #[]) ∧ ∃ its', its'.Perm its ∧ (its'.map IB.bd).Pairwise LeB ∧
      RowB w' base F (.slice A n cap) its' ∧ w.grownBy w' (Value.slice A n cap).ownBlock) := by
  by_cases h0 : its = []
  · subst h0
    subst hn
    have hS := (AnyF.slices_SortFunc_none (P := Tryz.prog) Tryz.sortBind A cap (.func (.func 110) #[] #[]) w)
    refine hS.mono ?_
    rintro e w' ⟨rfl, rfl⟩
    exact ⟨rfl, [], List.Perm.refl _, List.Pairwise.nil, hrow, grown_lay (Lay.refl _ _) _⟩
  · have hpos : 0 < its.length := List.length_pos_iff.2 h0
    rcases hrow.own.2 with ⟨_, h⟩ | ⟨g, cap', cur, hv, _⟩
    · omega
    injection hv with h1 h2 h3
    subst h1
    refine (bsort_any w base g cap n F its hn (by omega) hn2 hrow hsz).mono ?_
    rintro e w' ⟨rfl, its', hp, hs, hr, hg⟩
    refine ⟨rfl, its', hp, ?_, hr, hg⟩
    rw [List.pairwise_iff_getElem]
    intro i j hi hj hij
    simp only [List.length_map] at hi hj
    have := hs i j hij hj
    simpa [LeB, IB.bd] using this

set_option maxHeartbeats 1200000 in
set_option maxRecDepth 100000 in
theorem scompose_any (s t : List Bd) (S0 T0 : Option Addr) (sc tc : Nat) (w : World) (hsz : SizeB s) (htz : SizeB t) (hrs : RepB w (fun b => b < w.heap.size) s S0 sc) (hrt : RepB w (fun b => b < w.heap.size) t T0 tc) :
    Calls Tryz.prog 64 #[.slice S0 s.length sc, .slice T0 t.length tc] w (Composed (composeE s t) w) := by
  have mixed : Tryz.prog.follows .mixedOrders = true := by kernel_rfl
  have VS := svalid_any s S0 sc w hsz hrs
  have VT : Hid (∀ Z, Lay w.heap.size w Z → Calls Tryz.prog 65 #[.slice T0 t.length tc] Z fun e w' => e = .returned (.int .i64 (validS t)) ∧ Lay Z.heap.size Z w') := Lib.hid fun Z h => svalid_any t T0 tc Z htz (hrt.go h.below h.size)
  obtain ⟨r, hr⟩ : ∃ r, r = composeE s t := ⟨_, rfl⟩
  rw [← hr]
  unfold composeE at hr
  obtain ⟨vs, hvs⟩ : ∃ v, v = validS s := ⟨_, rfl⟩
  obtain ⟨vt, hvt⟩ : ∃ v, v = validS t := ⟨_, rfl⟩
  rw [← hvs, ← hvt] at hr
  rw [← hvs] at VS
  rw [← hvt] at VT
  have VS := Lib.hid VS
  have HR := Lib.hid hr; clear hr
  have HVS := Lib.hid hvs; clear hvs
  have HVT := Lib.hid hvt; clear hvt
  have hrs1 := hrs.2.1
  have hrs2 := hrs.1
  have hrt1 := hrt.2.1
  have hrt2 := hrt.1
  unfold maxLen at hrs1 hrt1
  have HRS := Lib.hid hrs; clear hrs
  have HRT := Lib.hid hrt; clear hrt
  have HSZ := Lib.hid hsz; clear hsz
  have HTZ := Lib.hid htz; clear htz
  go_enter Tryz.func64, Tryz.ntmps64
  go_wp2_with fail
  refine VS.out.mono ?_; clear VS
  rintro e w1 ⟨rfl, hl1⟩
  rcases eq_facts vs 0 with ⟨h0, e0, n0⟩ | ⟨h0, e0, n0⟩
  rotate_left
  · have hr := HR.out.trans (if_pos h0)
    subst hr
    clear HR h0 VT
    go_wp2_with fail
    go_ret2
    exact composed_err hl1.below
  subst h0
  have HR1 := Lib.hid (HR.out.trans (if_neg (by simp))); clear HR
  have VT := Lib.hid (VT.out w1 hl1)
  go_wp2_with fail
  refine VT.out.mono ?_; clear VT
  rintro e w2 ⟨rfl, hl2⟩
  have HL2 := Lib.hid (hl1.trans (hl2.mono hl1.size)); clear hl1 hl2
  rcases eq_facts vt 0 with ⟨h0, e1, n1⟩ | ⟨h0, e1, n1⟩
  rotate_left
  · have hr := HR1.out.trans (if_pos h0)
    subst hr
    clear HR1 h0
    go_wp2_with fail
    go_ret2
    exact composed_err HL2.out.below
  subst h0
  have HR2 := Lib.hid (HR1.out.trans (if_neg (by simp))); clear HR1
  have hzs := validS_zero HVS.out.symm
  have hzt := validS_zero HVT.out.symm
  have hls := hzs.1
  have hlt0 := hzt.1
  have HZS := Lib.hid hzs; clear hzs
  have HZT := Lib.hid hzt; clear hzt
  have HMS : Hid ((mapS t s).length ≤ s.length) := mapS_length t s
  have HRL : Hid ((restS s t).length ≤ t.length) := restS_length s t
  go_wp2_with fail
  go_loopw [8, 29] (fun v i wr => ∃ k : Nat, k ≤ s.length ∧ i = .int .i64 k ∧ Hid (CRel w (mapS t (s.take k)) v wr) ∧ Hid (errS t s = errS t (s.drop k))) (fun _ i _ => s.length - (intOf i).toNat)
  case atStart => exact ⟨0, Nat.zero_le _, rfl, ⟨0, 0, none, [], rfl, rfl, RowB.nil _ _ _, rfl, HL2.out.below⟩, rfl⟩
  case round =>
    obtain ⟨k, hk, rfl, HC, HE⟩ := hrel
    have i1 : (0 : Int) ≤ (k : Int) := Int.natCast_nonneg _
    by_cases hlt : k < s.length
    · have i2 : (k : Int) < (s.length : Int) := by omega
      obtain ⟨m, c0, A0, its, rfl, hm, hrow, hits, hbw⟩ := HC.out
      clear HC
      rcases HRS.out.2.2 with h | ⟨kb, off, hS0, hbB, hl⟩
      · rw [h] at hlt; simp at hlt
      subst hS0
      have hlr : RepLP wr (fun b => b < w.heap.size) (flat s) kb off := RepLP.mono (fun _ h => h) (fun p hp => hbw.cell hp) _ _ _ hbB hl
      obtain ⟨A, c, A', c', h8⟩ := hlr.get8 k hlt
      have hws := hbw.size
      obtain ⟨hx, ht⟩ := HSZ.out s[k] (List.getElem_mem hlt)
      obtain ⟨V, hV⟩ : ∃ V, V = wr.alloc (.cells #[.int .i64 s[k].1.kind, .string s[k].1.name, .int .i64 s[k].1.sort, .slice A s[k].1.kids.length c, .int .i64 s[k].2.kind, .string s[k].2.name, .int .i64 s[k].2.sort, .slice A' s[k].2.kids.length c'] 53) := ⟨_, rfl⟩
      have hB : Bx wr s[k] A c A' c' V := by rw [hV]; exact Bx.new wr s[k] A c A' c'
      have hrx : RepT wr wr.heap.size s[k].1 A c := RepP.mono (fun b (h : b < w.heap.size) => Nat.lt_of_lt_of_le h hws) (fun _ _ => rfl) _ _ _ h8.r1
      have hrt : RepT wr wr.heap.size s[k].2 A' c' := RepP.mono (fun b (h : b < w.heap.size) => Nat.lt_of_lt_of_le h hws) (fun _ _ => rfl) _ _ _ h8.r2
      have AP := Lib.hid (sapply_any t T0 tc HVT.out.symm s[k].2 A' c' V ht (HRT.out.mono (fun b (h : b < w.heap.size) => by have := hB.lay.size; omega) (fun p (hp : p.block < w.heap.size) => (hB.lay.below.cell (by omega)).trans (hbw.cell hp))) (hrt.go hB.lay.below hB.lay.size))
      have hst := errS_drop t s k hlt
      rw [← HE.out] at hst
      have hnx := mapS_take_succ t s k hlt
      rw [← hits] at hnx
      have happ : applyE t s[k].2 = if s[k].2.valid ≠ 0 then (.mk 0 ⟨#[]⟩ 0 [], s[k].2.valid) else if (s[k].2.put t).valid ≠ 0 then (.mk 0 ⟨#[]⟩ 0 [], (s[k].2.put t).valid) else (s[k].2.put t, 0) := rfl
      obtain ⟨q, hq⟩ : ∃ q, q = applyE t s[k].2 := ⟨_, rfl⟩
      rw [← hq] at AP hst happ
      clear hq
      obtain ⟨a0, a1, a2, a3, b0, b1, b2, b3, -, -⟩ := h8
      have HST := Lib.hid hst; clear hst
      have HNX := Lib.hid hnx; clear hnx
      have HAP := Lib.hid happ; clear happ
      have HRX := Lib.hid hrx; clear hrx hrt
      have HROW := Lib.hid hrow; clear hrow
      have HITS := Lib.hid hits; clear hits
      have HBW := Lib.hid hbw; clear hbw
      have HM := Lib.hid hm; clear hm
      have HV := Lib.hid hV; clear hV
      have HB := Lib.hid hB; clear hB hlr hl
      simp only [Tm.val] at AP
      go_wp2_with fail
      rw [← HV.out]
      obtain ⟨d0, d1, d2, d3, e0', e1', e2', e3'⟩ := eight_at HB.out.box
      go_wp2_with fail
      refine AP.out.mono ?_; clear AP
      rintro e w3 ⟨A3, c3, rfl, hrep3, hb3⟩
      have hlV := HB.out.lt
      have hsV := HB.out.lay.size
      have hs3 := hb3.size
      have hbx := (hb3.block _ hlV).trans HB.out.box
      obtain ⟨u, n⟩ := q
      obtain ⟨X, hX⟩ : ∃ X, X = w3.alloc (.cells #[.int .i64 u.kind, .string u.name, .int .i64 u.sort, .slice A3 u.kids.length c3] 24) := ⟨_, rfl⟩
      have hbX : Below w3.heap.size w3 X := by rw [hX]; exact below1 (Nat.le_refl _) _
      have hsX : X.heap.size = w3.heap.size + 1 := by rw [hX]; simp
      have hux : X.heap[w3.heap.size]? = some (.cells #[.int .i64 u.kind, .string u.name, .int .i64 u.sort, .slice A3 u.kids.length c3] 24 (0, 0)) := by rw [hX]; exact heap_alloc_new _ _
      have hbx2 := (hbX.block _ (by omega)).trans hbx
      have hbXr : Below wr.heap.size wr X := below_then (below_then HB.out.lay.below hb3 hsV) hbX (by omega)
      have hrepX : RepP X (fun b => V.heap.size ≤ b ∧ b < w3.heap.size) u A3 c3 := RepP.mono (fun _ h => h) (fun p ⟨_, hp⟩ => hbX.cell hp) _ _ _ hrep3
      have HX := Lib.hid hX; clear hX
      have HUX := Lib.hid hux; clear hux
      have HBX := Lib.hid hbx2; clear hbx2 hbx
      have HBR := Lib.hid hbXr; clear hbXr hbX
      have HREP := Lib.hid hrepX; clear hrepX hrep3 hb3 a0 a1 a2 a3 b0 b1 b2 b3 d0 d1 d2 d3 e0' e1' e2' e3' HB HV
      simp only [Tm.val]
      rcases eq_facts n 0 with ⟨h0, e2, n2⟩ | ⟨h0, e2, n2⟩
      rotate_left
      · have he : errS t s = n := HST.out.trans (if_pos h0)
        have hr := HR2.out.trans (if_pos (by rw [he]; exact h0))
        rw [he] at hr
        subst hr
        clear HR2 he HST HE h0
        go_wp2_with fail
        go_ret2
        rw [← HX.out]
        exact composed_err (HBW.out.trans (HBR.out.mono hws))
      have HE2 := Lib.hid (HST.out.trans (if_neg (by simpa using h0))); clear HST HE
      have hu : u = s[k].2.put t ∧ u.size ≤ 400 := by
        have h1 := HAP.out
        split at h1
        · rename_i g; injection h1 with _ g2; exact absurd (g2.symm.trans h0) g
        · split at h1
          · rename_i g; injection h1 with _ g2; exact absurd (g2.symm.trans h0) g
          · rename_i g; injection h1 with g1 _; exact ⟨g1, by rw [g1]; exact valid_size (by simpa using g)⟩
      obtain ⟨hu, hus⟩ := hu
      have HNX2 := Lib.hid HNX.out; clear HNX
      rw [← hu] at HNX2
      clear hu HAP h0
      have CM : Hid (∀ Z, Below X.heap.size X Z → Calls Tryz.prog 100 #[s[k].1.val A c, u.val A3 c3] Z fun e w' => e = .returned (.int .i64 (s[k].1.cmp u)) ∧ Lay Z.heap.size Z w') := Lib.hid fun Z h =>
        compare_any 1000000 s[k].1 u A A3 c c3 Z hx (by omega) (by omega) (RepP.mono (fun b (hb : b < wr.heap.size) => by have := h.size; have := HBR.out.size; omega) (fun p (hp : p.block < wr.heap.size) => (h.cell (by have := HBR.out.size; omega)).trans (HBR.out.cell hp)) _ _ _ HRX.out)
          (RepP.mono (fun b ⟨_, hb⟩ => by have := h.size; omega) (fun p ⟨_, hp⟩ => h.cell (by omega)) _ _ _ HREP.out)
      obtain ⟨cm, hcm⟩ : ∃ v, v = s[k].1.cmp u := ⟨_, rfl⟩
      have hcmi : cm = 0 ↔ s[k].1 = u := by rw [hcm]; exact Tm.cmp_zero
      rw [← hcm] at CM
      clear hcm
      have HCM := Lib.hid hcmi; clear hcmi
      have CL : Hid (∀ Z, Below X.heap.size X Z → Calls Tryz.prog 107 #[s[k].1.val A c] Z (Fresh s[k].1 Z)) := Lib.hid fun Z h =>
        sclone_any 1000000 s[k].1 A c Z hx (Nat.le_refl _) (RepP.mono (fun b (hb : b < wr.heap.size) => by have := h.size; have := HBR.out.size; omega) (fun p (hp : p.block < wr.heap.size) => (h.cell (by have := HBR.out.size; omega)).trans (HBR.out.cell hp)) _ _ _ HRX.out)
      obtain ⟨d0, d1, d2, d3, e0', e1', e2', e3'⟩ := eight_at HBX.out
      obtain ⟨u0, u1, u2, u3, -⟩ := box_at HUX.out
      have CON := Lib.hid (CM.out X (Below.refl _ _)); clear CM
      simp only [Tm.val] at CON CL
      rw [HX.out] at d0 d1 d2 d3 u0 u1 u2 u3
      go_wp2_with fail
      rw [← HX.out]
      refine CON.out.mono ?_; clear CON
      rintro e w4 ⟨rfl, hl4⟩
      clear d0 d1 d2 d3 e0' e1' e2' e3' u0 u1 u2 u3
      rcases eq_facts cm 0 with ⟨h1, e3, n3⟩ | ⟨h1, e3, n3⟩
      · have h2 := HCM.out.1 h1
        have HNX3 := HNX2.out
        rw [if_pos h2, List.append_nil] at HNX3
        have HNX4 := Lib.hid HNX3; clear HNX3 HNX2 h2 h1
        go_wp2_with fail
        go_roundw
        case rel =>
          have hb4 : Below wr.heap.size wr w4 := below_then HBR.out hl4.below HBR.out.size
          exact ⟨k + 1, by omega, by go_num, ⟨m, c0, A0, its, rfl, HM.out, HROW.out.below hb4, HNX4.out.symm, HBW.out.trans (hb4.mono hws)⟩, HE2.out⟩
        case measure => simp [intOf]; omega
      have HNX3 := HNX2.out
      rw [if_neg (fun e => h1 (HCM.out.2 e))] at HNX3
      have HNX4 := Lib.hid HNX3; clear HNX3 HNX2 h1
      have hm := HM.out
      subst hm
      clear HM
      have hs4 := hl4.size
      have hsr := HBR.out.size
      have hbX4 : Below X.heap.size X w4 := hl4.below
      obtain ⟨d0, d1, d2, d3, -⟩ := eight_at (show w4.drew.heap[wr.heap.size]? = _ from (hbX4.block _ (by omega)).trans HBX.out)
      obtain ⟨u0, u1, u2, u3, -⟩ := box_at (show w4.drew.heap[w3.heap.size]? = _ from (hbX4.block _ (by omega)).trans HUX.out)
      have CON := Lib.hid (CL.out w4.drew hbX4.drew); clear CL
      have hbr4 : Below wr.heap.size wr w4.drew := below_then HBR.out hbX4.drew hsr
      have hrep4 : RepP w4.drew (fun b => V.heap.size ≤ b ∧ b < w3.heap.size) u A3 c3 := RepP.mono (fun _ h => h) (fun p ⟨_, hp⟩ => hbX4.drew.cell (by omega)) _ _ _ HREP.out
      have hsd : w4.drew.heap.size = w4.heap.size := rfl
      have hne1 : (Value.slice A0 its.length c0).ownBlock ≠ some wr.heap.size := fun e => by have := (HROW.out.lt _ e).2; omega
      have hne2 : (Value.slice A0 its.length c0).ownBlock ≠ some w3.heap.size := fun e => by have := (HROW.out.lt _ e).2; omega
      have hlen : its.length + 1 ≤ 100000000 := by
        have h := congrArg List.length HITS.out
        have h2 := mapS_length t (s.take k)
        simp at h h2; omega
      go_wp2_with fail
      refine wp_region_mix (fun Y => ∀ p : Addr, p.block < w4.drew.heap.size → (Value.slice A0 its.length c0).ownBlock ≠ some p.block → Y.cell? p = w4.drew.cell? p) 8 (.held 0 (.held 1 (.held 2 (.held 4 (.op 3 (.op 5 (.op 6 (.op 7 (.op 8 .nil))))))))) mixed (by kernel_rfl) ?_
      generalize w4.drew = Z at *
      refine mix_take (v := .slice A0 its.length c0) rfl rfl (fun _ _ _ h => h) (fun _ _ _ => rfl) (fun Y hY => by (try simp only [Act.put]); go_simp) ?_
      refine mix_take (v := .pointer (some ⟨wr.heap.size, 0, none⟩)) rfl rfl (fun _ _ _ h => h) (fun _ _ _ => rfl) (fun Y hY => by (try simp only [Act.put]); go_simp) ?_
      refine mix_take (v := .agg #[.int .i64 s[k].1.kind, .string s[k].1.name, .int .i64 s[k].1.sort, .slice A s[k].1.kids.length c]) rfl rfl (fun _ _ _ h => h) (fun _ _ _ => rfl) (fun Y hY => by
        have z0 := (hY ⟨wr.heap.size, 0, none⟩ (by show wr.heap.size < _; omega) hne1).trans d0
        have z1 := (hY ⟨wr.heap.size, 1, none⟩ (by show wr.heap.size < _; omega) hne1).trans d1
        have z2 := (hY ⟨wr.heap.size, 2, none⟩ (by show wr.heap.size < _; omega) hne1).trans d2
        have z3 := (hY ⟨wr.heap.size, 3, none⟩ (by show wr.heap.size < _; omega) hne1).trans d3
        (try simp only [Act.put]); go_simp) ?_
      refine mix_take (v := .agg #[.int .i64 u.kind, .string u.name, .int .i64 u.sort, .slice A3 u.kids.length c3]) rfl rfl (fun _ _ _ h => h) (fun _ _ _ => rfl) (fun Y hY => by
        have z0 := (hY ⟨w3.heap.size, 0, none⟩ (by show w3.heap.size < _; omega) hne2).trans u0
        have z1 := (hY ⟨w3.heap.size, 1, none⟩ (by show w3.heap.size < _; omega) hne2).trans u1
        have z2 := (hY ⟨w3.heap.size, 2, none⟩ (by show w3.heap.size < _; omega) hne2).trans u2
        have z3 := (hY ⟨w3.heap.size, 3, none⟩ (by show w3.heap.size < _; omega) hne2).trans u3
        (try simp only [Act.put]); go_simp) ?_
      simp only [Act.put, List.setIfInBounds_toArray]
      refine mix_op rfl rfl (fun K hK => ?_)
      go_wp2_with fail
      refine CON.out.mono ?_; clear CON d0 d1 d2 d3 u0 u1 u2 u3
      rintro e w5 ⟨A5, c5, rfl, hrep5, hb5⟩
      refine hK _ _ ⟨fun _ p hp _ => hb5.cell hp, ?_⟩
      clear hK K
      have hs5 := hb5.size
      refine mix_op rfl rfl (fun K hK => ?_)
      go_wp2_with fail
      refine ⟨fun _ p hp _ => hb5.cell hp, ?_⟩
      refine mix_op rfl rfl (fun K hK => ?_)
      go_wp2_with fail
      refine ⟨fun _ p hp _ => ((below1 (Nat.le_refl _) _).cell (by omega)).trans (hb5.cell hp), ?_⟩
      refine mix_op rfl rfl (fun K hK => ?_)
      have hbr5 : Below wr.heap.size wr w5 := below_then hbr4 hb5 hbr4.size
      have hrow5 := HROW.out.below hbr5
      have hX1 : RepP w5 (fun b => w.heap.size ≤ b ∧ b < w5.heap.size ∧ (Value.slice A0 its.length c0).ownBlock ≠ some b) s[k].1 A5 c5 := RepP.mono (fun b ⟨g1, g2⟩ => ⟨by omega, g2, fun e => by have := (HROW.out.lt _ e).2; omega⟩) (fun _ _ => rfl) _ _ _ hrep5
      have hX2 : RepP w5 (fun b => w.heap.size ≤ b ∧ b < w5.heap.size ∧ (Value.slice A0 its.length c0).ownBlock ≠ some b) u A3 c3 := RepP.mono (fun b ⟨g1, g2⟩ => ⟨by omega, by omega, fun e => by have := (HROW.out.lt _ e).2; omega⟩) (fun p ⟨_, hp⟩ => hb5.cell (by omega)) _ _ _ hrep4
      obtain ⟨W6, hW6⟩ : ∃ W6, W6 = w5.alloc (.cells (bCells [((s[k].1, A5, c5), (u, A3, c3))]).toArray 53) := ⟨_, rfl⟩
      have hb6 : Below w5.heap.size w5 W6 := by rw [hW6]; exact below1 (Nat.le_refl _) _
      have hs6 : W6.heap.size = w5.heap.size + 1 := by rw [hW6]; simp
      have hx6 : W6.heap[w5.heap.size]? = some (.cells (bCells [((s[k].1, A5, c5), (u, A3, c3))]).toArray 53 (0, 0)) := by rw [hW6]; exact heap_alloc_new _ _
      have key : ∀ (y : Tm) B d, RepP w5 (fun b => w.heap.size ≤ b ∧ b < w5.heap.size ∧ (Value.slice A0 its.length c0).ownBlock ≠ some b) y B d → RepP W6 (fun b => w.heap.size ≤ b ∧ b < W6.heap.size ∧ (Value.slice A0 its.length c0).ownBlock ≠ some b) y B d := fun y B d h =>
        RepP.mono (fun b ⟨g1, g2, g3⟩ => ⟨g1, by omega, g3⟩) (fun p ⟨_, hp, _⟩ => hb6.cell hp) _ _ _ h
      have hY1 := key _ _ _ hX1
      have hY2 := key _ _ _ hX2
      have hrow6 := hrow5.below hb6
      simp only [bCells, bits, itCells, Tm.cells, List.cons_append, List.nil_append] at hW6
      rw [← hW6]
      refine wp_pushB (by rfl) (.tmp 48) (.tmp 54) (by rfl) w.heap.size (fun b => w.heap.size ≤ b) (.slice A0 its.length c0) its (by rfl) hrow6 ((s[k].1, A5, c5), (u, A3, c3)) w5.heap.size _ (0, 0) (by rfl) hx6 hY1 hY2 hlen (by omega) ?_
      intro g cap2 w7 hrow7 hgr hbg
      refine hK _ _ ⟨fun _ p hp hp2 => ?_, ?_⟩
      · rw [World.cell?_of_block (hgr.block p.block (by omega) (fun e => hp2 e.symm)), hb6.cell (by omega), hb5.cell hp]
      clear hK K
      simp only [Act.put, List.setIfInBounds_toArray]
      refine mix_op rfl rfl (fun K hK => ?_)
      go_wp2_with fail
      refine ⟨fun h => absurd h (by decide), ?_⟩
      refine mix_nil ?_
      have HROW7 := Lib.hid hrow7; clear hrow7
      have hbw7 : Below w.heap.size w w7 := ((HBW.out.trans (hbr5.mono hws)).trans (hb6.mono (by omega))).grown hgr (by omega) (fun j e => by have := (HROW.out.lt _ e).1; omega)
      have HBW7 := Lib.hid hbw7; clear hbw7 hgr hrow6 hrow5 hY1 hY2 hX1 hX2 key hx6 hb6 hW6 hbr5 hb5 hrep5 hrep4 hbr4
      go_wp2_with fail
      go_roundw
      case rel =>
        exact ⟨k + 1, by omega, by go_num, ⟨its.length + 1, cap2, some ⟨g, 0, none⟩, its ++ [((s[k].1, A5, c5), (u, A3, c3))], rfl, by simp, HROW7.out, by rw [List.map_append]; exact HNX4.out.symm, HBW7.out⟩, HE2.out⟩
      case measure => simp [intOf]; omega
    · obtain rfl : k = s.length := by omega
      have HE0 : Hid (errS t s = 0) := by have := HE.out; rw [List.drop_length] at this; exact this
      obtain ⟨m0, c00, A00, its0, rfl, hm0, hrow0, hits0, hbw0⟩ := HC.out
      rw [List.take_length] at hits0
      have HC0 : Hid (CRel w (mapS t s) (.slice A00 m0 c00) wr) := ⟨m0, c00, A00, its0, rfl, hm0, hrow0, hits0, hbw0⟩
      clear HE HC hm0 hrow0 hits0 hbw0
      go_wp2_with fail
      go_loopw [8, 59] (fun v i wr => ∃ k : Nat, k ≤ t.length ∧ i = .int .i64 k ∧ Hid (CRel w (mapS t s ++ restS s (t.take k)) v wr)) (fun _ i _ => t.length - (intOf i).toNat)
      case atStart => exact ⟨0, Nat.zero_le _, rfl, by rw [show restS s (t.take 0) = [] from rfl, List.append_nil]; exact HC0.out⟩
      case round =>
        clear HC0 hk i1 hlt
        obtain ⟨k, hk, rfl, HC⟩ := hrel
        have i1 : (0 : Int) ≤ (k : Int) := Int.natCast_nonneg _
        obtain ⟨m, c0, A0, its, rfl, hm, hrow, hits, hbw⟩ := HC.out
        clear HC
        subst hm
        by_cases hlt : k < t.length
        · have i2 : (k : Int) < (t.length : Int) := by omega
          rcases HRT.out.2.2 with h | ⟨kb, off, hT0, hbB, hl⟩
          · rw [h] at hlt; simp at hlt
          subst hT0
          have hlr : RepLP wr (fun b => b < w.heap.size) (flat t) kb off := RepLP.mono (fun _ h => h) (fun p hp => hbw.cell hp) _ _ _ hbB hl
          obtain ⟨A, c, A', c', h8⟩ := hlr.get8 k hlt
          have hws := hbw.size
          obtain ⟨hx, ht⟩ := HTZ.out t[k] (List.getElem_mem hlt)
          obtain ⟨V, hV⟩ : ∃ V, V = wr.alloc (.cells #[.int .i64 t[k].1.kind, .string t[k].1.name, .int .i64 t[k].1.sort, .slice A t[k].1.kids.length c, .int .i64 t[k].2.kind, .string t[k].2.name, .int .i64 t[k].2.sort, .slice A' t[k].2.kids.length c'] 53) := ⟨_, rfl⟩
          have hB : Bx wr t[k] A c A' c' V := by rw [hV]; exact Bx.new wr t[k] A c A' c'
          have hrx : RepT wr wr.heap.size t[k].1 A c := RepP.mono (fun b (h : b < w.heap.size) => Nat.lt_of_lt_of_le h hws) (fun _ _ => rfl) _ _ _ h8.r1
          have hrt : RepT wr wr.heap.size t[k].2 A' c' := RepP.mono (fun b (h : b < w.heap.size) => Nat.lt_of_lt_of_le h hws) (fun _ _ => rfl) _ _ _ h8.r2
          have CLX : Hid (∀ Z, Below wr.heap.size wr Z → Calls Tryz.prog 107 #[t[k].1.val A c] Z (Fresh t[k].1 Z)) := Lib.hid fun Z h => sclone_any 1000000 t[k].1 A c Z hx (Nat.le_refl _) (hrx.go h h.size)
          have CLT : Hid (∀ Z, Below wr.heap.size wr Z → Calls Tryz.prog 107 #[t[k].2.val A' c'] Z (Fresh t[k].2 Z)) := Lib.hid fun Z h => sclone_any 1000000 t[k].2 A' c' Z ht (Nat.le_refl _) (hrt.go h h.size)
          have FD := find_any s S0 sc t[k].1 A c V (by omega) HZS.out.2.2 HSZ.out hx (HRS.out.mono (fun b (h : b < w.heap.size) => by have := hB.lay.size; omega) (fun p (hp : p.block < w.heap.size) => (hB.lay.below.cell (by omega)).trans (hbw.cell hp))) (hrx.go hB.lay.below hB.lay.size)
          have hnx := restS_take_succ s t k hlt
          have hlen : its.length + 1 ≤ 100000000 := by
            have h := congrArg List.length hits
            have h2 := restS_length s (t.take k)
            have h3 := HMS.out
            simp at h h2; omega
          unfold Found at FD
          obtain ⟨hb, hhb⟩ : ∃ v, v = hasS s t[k].1 := ⟨_, rfl⟩
          obtain ⟨gt, hgt⟩ : ∃ v, v = getS s t[k].1 := ⟨_, rfl⟩
          rw [← hhb] at FD hnx
          rw [← hgt] at FD
          clear hhb hgt
          have FD := Lib.hid FD
          obtain ⟨a0, a1, a2, a3, b0, b1, b2, b3, -, -⟩ := h8
          have HNX := Lib.hid hnx; clear hnx
          have HROW := Lib.hid hrow; clear hrow
          have HITS := Lib.hid hits; clear hits
          have HBW := Lib.hid hbw; clear hbw hrx hrt
          have HV := Lib.hid hV; clear hV
          have HB := Lib.hid hB; clear hB hlr hl
          simp only [Tm.val] at FD CLX CLT
          go_wp2_with fail
          rw [← HV.out]
          obtain ⟨d0, d1, d2, d3, e0', e1', e2', e3'⟩ := eight_at HB.out.box
          go_wp2_with fail
          refine FD.out.mono ?_; clear FD
          rintro e w3 ⟨A3, c3, rfl, -, hl3⟩
          clear a0 a1 a2 a3 b0 b1 b2 b3 d0 d1 d2 d3 e0' e1' e2' e3' HV
          have hlV := HB.out.lt
          have hsV := HB.out.lay.size
          have hs3 := hl3.size
          obtain ⟨X, hX⟩ : ∃ X, X = w3.alloc (.cells #[.int .i64 gt.kind, .string gt.name, .int .i64 gt.sort, .slice A3 gt.kids.length c3] 24) := ⟨_, rfl⟩
          have hbX : Below w3.heap.size w3 X := by rw [hX]; exact below1 (Nat.le_refl _) _
          have hsX : X.heap.size = w3.heap.size + 1 := by rw [hX]; simp
          have hbx2 := (hbX.block _ (by omega)).trans ((hl3.below.block _ hlV).trans HB.out.box)
          have hbXr : Below wr.heap.size wr X := below_then (below_then HB.out.lay.below hl3.below hsV) hbX (by omega)
          have HX := Lib.hid hX; clear hX
          cases hb
          rotate_left
          · have HNX3 := HNX.out
            rw [if_pos rfl, List.append_nil] at HNX3
            go_wp2_with fail
            rw [← HX.out]
            go_roundw
            case rel =>
              exact ⟨k + 1, by omega, by go_num, ⟨its.length, c0, A0, its, rfl, rfl, HROW.out.below hbXr, by rw [HNX3]; exact HITS.out, HBW.out.trans (hbXr.mono hws)⟩⟩
            case measure => simp [intOf]; omega
          have HNX3 := HNX.out
          rw [if_neg (by simp)] at HNX3
          have HNX4 := Lib.hid HNX3; clear HNX3 HNX
          have hsr := hbXr.size
          go_wp2_with fail
          rw [← HX.out]
          obtain ⟨d0, d1, d2, d3, d4, d5, d6, d7⟩ := eight_at (show X.drew.heap[wr.heap.size]? = _ from hbx2)
          have hbr4 : Below wr.heap.size wr X.drew := hbXr.drew
          have CON := Lib.hid (CLX.out X.drew hbr4); clear CLX
          have hne1 : (Value.slice A0 its.length c0).ownBlock ≠ some wr.heap.size := fun e => by have := (HROW.out.lt _ e).2; omega
          have hsd : X.drew.heap.size = X.heap.size := rfl
          refine wp_region_mix (fun Y => ∀ p : Addr, p.block < X.drew.heap.size → (Value.slice A0 its.length c0).ownBlock ≠ some p.block → Y.cell? p = X.drew.cell? p) 10 (.held 0 (.held 1 (.held 2 (.held 4 (.held 5 (.op 3 (.op 6 (.op 7 (.op 8 (.op 9 (.op 10 .nil))))))))))) mixed (by kernel_rfl) ?_
          generalize X.drew = Z at *
          refine mix_take (v := .slice A0 its.length c0) rfl rfl (fun _ _ _ h => h) (fun _ _ _ => rfl) (fun Y hY => by (try simp only [Act.put]); go_simp) ?_
          refine mix_take (v := .pointer (some ⟨wr.heap.size, 0, none⟩)) rfl rfl (fun _ _ _ h => h) (fun _ _ _ => rfl) (fun Y hY => by (try simp only [Act.put]); go_simp) ?_
          refine mix_take (v := .agg #[.int .i64 t[k].1.kind, .string t[k].1.name, .int .i64 t[k].1.sort, .slice A t[k].1.kids.length c]) rfl rfl (fun _ _ _ h => h) (fun _ _ _ => rfl) (fun Y hY => by
            have z0 := (hY ⟨wr.heap.size, 0, none⟩ (by show wr.heap.size < _; omega) hne1).trans d0
            have z1 := (hY ⟨wr.heap.size, 1, none⟩ (by show wr.heap.size < _; omega) hne1).trans d1
            have z2 := (hY ⟨wr.heap.size, 2, none⟩ (by show wr.heap.size < _; omega) hne1).trans d2
            have z3 := (hY ⟨wr.heap.size, 3, none⟩ (by show wr.heap.size < _; omega) hne1).trans d3
            (try simp only [Act.put]); go_simp) ?_
          refine mix_take (v := .pointer (some ⟨wr.heap.size, 4, none⟩)) rfl rfl (fun _ _ _ h => h) (fun _ _ _ => rfl) (fun Y hY => by (try simp only [Act.put]); go_simp) ?_
          refine mix_take (v := .agg #[.int .i64 t[k].2.kind, .string t[k].2.name, .int .i64 t[k].2.sort, .slice A' t[k].2.kids.length c']) rfl rfl (fun _ _ _ h => h) (fun _ _ _ => rfl) (fun Y hY => by
            have z0 := (hY ⟨wr.heap.size, 4, none⟩ (by show wr.heap.size < _; omega) hne1).trans d4
            have z1 := (hY ⟨wr.heap.size, 5, none⟩ (by show wr.heap.size < _; omega) hne1).trans d5
            have z2 := (hY ⟨wr.heap.size, 6, none⟩ (by show wr.heap.size < _; omega) hne1).trans d6
            have z3 := (hY ⟨wr.heap.size, 7, none⟩ (by show wr.heap.size < _; omega) hne1).trans d7
            (try simp only [Act.put]); go_simp) ?_
          simp only [Act.put, List.setIfInBounds_toArray]
          refine mix_op rfl rfl (fun K hK => ?_)
          go_wp2_with fail
          refine CON.out.mono ?_; clear CON d0 d1 d2 d3 d4 d5 d6 d7
          rintro e w4 ⟨A4, c4, rfl, hrep4, hb4⟩
          refine hK _ _ ⟨fun _ p hp _ => hb4.cell hp, ?_⟩
          clear hK K
          have hs4 := hb4.size
          have hbr5 : Below wr.heap.size wr w4 := below_then hbr4 hb4 hbr4.size
          have CON := Lib.hid (CLT.out w4 hbr5); clear CLT
          refine mix_op rfl rfl (fun K hK => ?_)
          go_wp2_with fail
          refine CON.out.mono ?_; clear CON
          rintro e w5 ⟨A5, c5, rfl, hrep5, hb5⟩
          refine hK _ _ ⟨fun _ p hp _ => (hb5.cell (by omega)).trans (hb4.cell hp), ?_⟩
          clear hK K
          have hs5 := hb5.size
          have hbr6 : Below wr.heap.size wr w5 := below_then hbr5 hb5 hbr5.size
          refine mix_op rfl rfl (fun K hK => ?_)
          go_wp2_with fail
          refine ⟨fun _ p hp _ => (hb5.cell (by omega)).trans (hb4.cell hp), ?_⟩
          refine mix_op rfl rfl (fun K hK => ?_)
          go_wp2_with fail
          refine ⟨fun _ p hp _ => ((below1 (Nat.le_refl _) _).cell (by omega)).trans ((hb5.cell (by omega)).trans (hb4.cell hp)), ?_⟩
          refine mix_op rfl rfl (fun K hK => ?_)
          have hrow5 := HROW.out.below hbr6
          have hX1 : RepP w5 (fun b => w.heap.size ≤ b ∧ b < w5.heap.size ∧ (Value.slice A0 its.length c0).ownBlock ≠ some b) t[k].1 A4 c4 := RepP.mono (fun b ⟨g1, g2⟩ => ⟨by omega, by omega, fun e => by have := (HROW.out.lt _ e).2; omega⟩) (fun p ⟨_, hp⟩ => hb5.cell hp) _ _ _ hrep4
          have hX2 : RepP w5 (fun b => w.heap.size ≤ b ∧ b < w5.heap.size ∧ (Value.slice A0 its.length c0).ownBlock ≠ some b) t[k].2 A5 c5 := RepP.mono (fun b ⟨g1, g2⟩ => ⟨by omega, g2, fun e => by have := (HROW.out.lt _ e).2; omega⟩) (fun _ _ => rfl) _ _ _ hrep5
          obtain ⟨W6, hW6⟩ : ∃ W6, W6 = w5.alloc (.cells (bCells [((t[k].1, A4, c4), (t[k].2, A5, c5))]).toArray 53) := ⟨_, rfl⟩
          have hb6 : Below w5.heap.size w5 W6 := by rw [hW6]; exact below1 (Nat.le_refl _) _
          have hs6 : W6.heap.size = w5.heap.size + 1 := by rw [hW6]; simp
          have hx6 : W6.heap[w5.heap.size]? = some (.cells (bCells [((t[k].1, A4, c4), (t[k].2, A5, c5))]).toArray 53 (0, 0)) := by rw [hW6]; exact heap_alloc_new _ _
          have key : ∀ (y : Tm) B d, RepP w5 (fun b => w.heap.size ≤ b ∧ b < w5.heap.size ∧ (Value.slice A0 its.length c0).ownBlock ≠ some b) y B d → RepP W6 (fun b => w.heap.size ≤ b ∧ b < W6.heap.size ∧ (Value.slice A0 its.length c0).ownBlock ≠ some b) y B d := fun y B d h =>
            RepP.mono (fun b ⟨g1, g2, g3⟩ => ⟨g1, by omega, g3⟩) (fun p ⟨_, hp, _⟩ => hb6.cell hp) _ _ _ h
          have hY1 := key _ _ _ hX1
          have hY2 := key _ _ _ hX2
          have hrow6 := hrow5.below hb6
          simp only [bCells, bits, itCells, Tm.cells, List.cons_append, List.nil_append] at hW6
          rw [← hW6]
          refine wp_pushB (by rfl) (.tmp 72) (.tmp 80) (by rfl) w.heap.size (fun b => w.heap.size ≤ b) (.slice A0 its.length c0) its (by rfl) hrow6 ((t[k].1, A4, c4), (t[k].2, A5, c5)) w5.heap.size _ (0, 0) (by rfl) hx6 hY1 hY2 hlen (by omega) ?_
          intro g cap2 w7 hrow7 hgr hbg
          refine hK _ _ ⟨fun _ p hp hp2 => ?_, ?_⟩
          · rw [World.cell?_of_block (hgr.block p.block (by omega) (fun e => hp2 e.symm)), hb6.cell (by omega), hb5.cell (by omega), hb4.cell hp]
          clear hK K
          simp only [Act.put, List.setIfInBounds_toArray]
          refine mix_op rfl rfl (fun K hK => ?_)
          go_wp2_with fail
          refine ⟨fun h => absurd h (by decide), ?_⟩
          refine mix_nil ?_
          have HROW7 := Lib.hid hrow7; clear hrow7
          have hbw7 : Below w.heap.size w w7 := ((HBW.out.trans (hbr6.mono hws)).trans (hb6.mono (by omega))).grown hgr (by omega) (fun j e => by have := (HROW.out.lt _ e).1; omega)
          have HBW7 := Lib.hid hbw7; clear hbw7 hgr hrow6 hrow5 hY1 hY2 hX1 hX2 key hx6 hb6 hW6 hbr5 hb5 hrep5 hrep4 hbr4 hbr6
          go_wp2_with fail
          go_roundw
          case rel =>
            exact ⟨k + 1, by omega, by go_num, ⟨its.length + 1, cap2, some ⟨g, 0, none⟩, its ++ [((t[k].1, A4, c4), (t[k].2, A5, c5))], rfl, by simp, HROW7.out, by rw [List.map_append, HITS.out, HNX4.out, ← List.append_assoc]; rfl, HBW7.out⟩⟩
          case measure => simp [intOf]; omega
        · obtain rfl : k = t.length := by omega
          rw [List.take_length] at hits
          have hj : its.map IB.bd = joinS s t := hits
          have hjl : its.length = (joinS s t).length := by rw [← hj]; simp
          have HR3 := Lib.hid (HR2.out.trans (if_neg (by rw [HE0.out]; simp))); clear HR2
          have hlen : its.length ≤ 400 := by
            have h2 := HMS.out
            have h3 := HRL.out
            rw [hjl]; unfold joinS; simp; omega
          have HROW := Lib.hid hrow; clear hrow
          by_cases hbig : 200 < its.length
          · have hr := HR3.out.trans (if_pos (by omega))
            subst hr
            go_wp2_with fail
            go_ret2
            exact composed_err hbw
          have hr := HR3.out.trans (if_neg (by omega))
          subst hr
          clear HR3
          have hvj : VarsApart (joinS s t) := joinS_apart (vars_apart HZS.out.2.2) (vars_apart HZT.out.2.2)
          have hzj : ∀ x ∈ its, x.1.1.size ≤ 1000000 := fun x hx => by
            have h1 : x.bd ∈ joinS s t := by rw [← hj]; exact List.mem_map_of_mem hx
            unfold joinS at h1
            rcases List.mem_append.1 h1 with h1 | h1
            · unfold mapS at h1
              obtain ⟨b, hb, e⟩ := List.mem_map.1 (List.mem_filter.1 h1).1
              have h2 := (HSZ.out b hb).1
              have h3 : b.1 = x.1.1 := congrArg (·.1) e
              rw [← h3]; exact h2
            · exact (HTZ.out _ (List.mem_filter.1 h1).1).1
          have SO := Lib.hid (bsort_row wr w.heap.size (fun b => w.heap.size ≤ b) A0 c0 its.length its rfl (by omega) HROW.out hzj)
          have HJL := Lib.hid hjl; clear hjl
          have HJ := Lib.hid hj; clear hj hits hzj
          go_wp2_with fail
          refine SO.out.mono ?_; clear SO
          rintro e w5 ⟨rfl, its', hp, hs, hrow', hg⟩
          have hpl := hp.length_eq
          have hbd := sorted_is (HJ.out ▸ hp.map IB.bd) hs hvj
          have hpl2 : (sortS (joinS s t)).length = its.length := by rw [(sortS_perm _).length_eq, HJL.out]
          have hB : Below w.heap.size w w5 := hbw.grown hg hbw.size (fun j e => by have := (HROW.out.lt _ e).1; omega)
          have HRW := Lib.hid hrow'; clear hrow' hg
          go_wp2_with fail
          go_ret2
          obtain ⟨A9, c9, hv9, hrb⟩ := HRW.out.toB (P := fun b => w.heap.size ≤ b ∧ b < w5.heap.size) (fun b h1 h2 => ⟨h1, h2⟩) (fun b h1 h2 => ⟨h1, h2⟩)
          injection hv9 with g1 g2 g3
          subst g1 g3
          rw [hbd] at hrb
          exact ⟨A0, c0, by show _ = Ending.returned (.tuple #[.slice A0 (sortS (joinS s t)).length c0, .int .i64 0]); rw [hpl2]; rfl, hrb, hB⟩
end Go.Proofs.YtipmibjhlpnhjaaGreatDoor
