/- The reference's Compose. -/
import Derived.Test.YtkbkgiihgghbeaaDoorSrbind
import Derived.Test.YtkbkgiihgghbeaaDoorScompose
namespace Go.Proofs.YtkbkgiihgghbeaaDoor
open Go.RowKit Go.Sort

theorem sortS_snoc (l : List Bd) (b : Bd) : sortS (l ++ [b]) = insB b (sortS l) := by unfold sortS; rw [List.foldl_append]; rfl
theorem bindR_step (l : List Bd) (x u : Tm) : bindR (sortS l) x u = sortS (l ++ (if x = u then [] else [(x, u)])) := by
  unfold bindR
  split
  · rw [List.append_nil]
  · rw [sortS_snoc]
theorem sortS_mem {l : List Bd} {b : Bd} (h : b ∈ sortS l) : b ∈ l := (sortS_perm l).mem_iff.1 h
theorem sortS_length (l : List Bd) : (sortS l).length = l.length := (sortS_perm l).length_eq
theorem joinS_size {s t : List Bd} (hs : validS s = 0) (ht : validS t = 0) (s' t' : List Bd) (h1 : ∀ b ∈ s', b ∈ s) (h2 : ∀ b ∈ t', b ∈ t) : SizeB (mapS t s' ++ restS s t') := by
  intro b hb
  have key : ∀ {s : List Bd}, validS s = 0 → ∀ b ∈ s, b.1.size ≤ 400 ∧ b.2.size ≤ 400 := fun hv b hb => by
    have h1 := bindE_zero ((validS_zero hv).2.1 b hb)
    exact ⟨valid_size h1.1, valid_size h1.2.2.2.1⟩
  rcases List.mem_append.1 hb with hb | hb
  · unfold mapS at hb
    obtain ⟨hb, -⟩ := List.mem_filter.1 hb
    obtain ⟨c, hc, rfl⟩ := List.mem_map.1 hb
    obtain ⟨k1, k2⟩ := key hs c (h1 c hc)
    have := put_size (valid_sizes ht) (by omega) c.2
    exact ⟨by show c.1.size ≤ _; omega, by show (c.2.put t).size ≤ _; omega⟩
  · obtain ⟨hb, -⟩ := List.mem_filter.1 hb
    obtain ⟨k1, k2⟩ := key ht b (h2 b hb)
    omega

def RComposed (r : List Bd × Int) (w : World) (e : Ending) (w' : World) : Prop :=
  ∃ A c, e = .returned (.tuple #[.slice A r.1.length c, .int .i64 r.2]) ∧ RepB w' (fun b => b < w'.heap.size) r.1 A c ∧ Below w.heap.size w w'
theorem rcomposed_err {w w' : World} {n : Int} (h : Below w.heap.size w w') : RComposed ([], n) w (.returned (.tuple #[.slice none 0 0, .int .i64 n])) w' :=
  ⟨none, 0, rfl, ⟨Nat.le_refl _, by simp [maxLen], .inl rfl⟩, h⟩
/-- what stands in the world when a round begins -/
structure RRel (w : World) (l : List Bd) (v : Value) (wr : World) : Prop where
  rep : ∃ (m c : Nat) (A : Option Addr), v = .slice A m c ∧ m = l.length ∧ RepB wr (fun b => b < wr.heap.size) l A c
  bw : Below w.heap.size w wr

theorem RepP.mono' {w : World} {B B' : Nat} {t : Tm} {A : Option Addr} {c : Nat} (h : RepP w (fun b => b < B) t A c) (hB : B ≤ B') : RepT w B' t A c := RepP.mono (fun b (hb : b < B) => by show b < B'; omega) (fun _ _ => rfl) _ _ _ h

set_option maxHeartbeats 4000000 in
set_option maxRecDepth 100000 in
theorem rcompose_any' (s t : List Bd) (S0 T0 : Option Addr) (sc tc : Nat) (w : World) (hsz : SizeB s) (htz : SizeB t) (hrs : RepB w (fun b => b < w.heap.size) s S0 sc) (hrt : RepB w (fun b => b < w.heap.size) t T0 tc) :
    Calls Tryd.prog 17 #[.slice S0 s.length sc, .slice T0 t.length tc] w (RComposed (composeE s t) w) := by
  have mixed : Tryd.prog.follows .mixedOrders = true := by kernel_rfl
  have VS := rsvalid_any s S0 sc w hsz hrs
  have VT : Hid (∀ Z, Lay w.heap.size w Z → Calls Tryd.prog 12 #[.slice T0 t.length tc] Z fun e w' => e = .returned (.int .i64 (validS t)) ∧ Lay Z.heap.size Z w') := Lib.hid fun Z h => rsvalid_any t T0 tc Z htz (hrt.go h.below h.size)
  obtain ⟨r, hr⟩ : ∃ r, r = composeE s t := ⟨_, rfl⟩
  rw [← hr]
  unfold composeE at hr
  obtain ⟨vs, hvs⟩ : ∃ v, v = validS s := ⟨_, rfl⟩
  obtain ⟨vt, hvt⟩ : ∃ v, v = validS t := ⟨_, rfl⟩
  rw [← hvs, ← hvt] at hr
  rw [← hvs] at VS
  rw [← hvt] at VT
  have VS := Lib.hid VS
  have HR := Lib.hid hr; clear hr
  have HVS := Lib.hid hvs; clear hvs
  have HVT := Lib.hid hvt; clear hvt
  have hrs1 := hrs.2.1
  have hrs2 := hrs.1
  have hrt1 := hrt.2.1
  have hrt2 := hrt.1
  unfold maxLen at hrs1 hrt1
  have HRS := Lib.hid hrs; clear hrs
  have HRT := Lib.hid hrt; clear hrt
  have HSZ := Lib.hid hsz; clear hsz
  have HTZ := Lib.hid htz; clear htz
  go_enter Tryd.func17, Tryd.ntmps17
  go_wp2_with fail
  refine VS.out.mono ?_; clear VS
  rintro e w1 ⟨rfl, hl1⟩
  rcases eq_facts vs 0 with ⟨h0, e0, n0⟩ | ⟨h0, e0, n0⟩
  rotate_left
  · have hr := HR.out.trans (if_pos h0)
    subst hr
    clear HR h0 VT
    go_wp2_with fail
    go_ret2
    exact rcomposed_err hl1.below
  subst h0
  have HR1 := Lib.hid (HR.out.trans (if_neg (by simp))); clear HR
  have VT := Lib.hid (VT.out w1 hl1)
  go_wp2_with fail
  refine VT.out.mono ?_; clear VT
  rintro e w2 ⟨rfl, hl2⟩
  have HL2 := Lib.hid (hl1.trans (hl2.mono hl1.size)); clear hl1 hl2
  rcases eq_facts vt 0 with ⟨h0, e1, n1⟩ | ⟨h0, e1, n1⟩
  rotate_left
  · have hr := HR1.out.trans (if_pos h0)
    subst hr
    clear HR1 h0
    go_wp2_with fail
    go_ret2
    exact rcomposed_err HL2.out.below
  subst h0
  have HR2 := Lib.hid (HR1.out.trans (if_neg (by simp))); clear HR1
  have hzs := validS_zero HVS.out.symm
  have hzt := validS_zero HVT.out.symm
  have hls := hzs.1
  have hlt0 := hzt.1
  have HZT := Lib.hid hzt; clear hzt hzs
  have HJS : Hid (∀ s' t', (∀ b ∈ s', b ∈ s) → (∀ b ∈ t', b ∈ t) → SizeB (mapS t s' ++ restS s t')) := fun s' t' => joinS_size HVS.out.symm HVT.out.symm s' t'
  go_wp2_with fail
  go_loopw [8, 9] (fun v i wr => ∃ k : Nat, k ≤ s.length ∧ i = .int .i64 k ∧ Hid (RRel w (sortS (mapS t (s.take k))) v wr) ∧ Hid (errS t s = errS t (s.drop k))) (fun _ i _ => s.length - (intOf i).toNat)
  case atStart => exact ⟨0, Nat.zero_le _, rfl, ⟨⟨0, 0, none, rfl, rfl, Nat.le_refl _, by simp [maxLen], .inl rfl⟩, HL2.out.below⟩, rfl⟩
  case round =>
    obtain ⟨k, hk, rfl, HC, HE⟩ := hrel
    have i1 : (0 : Int) ≤ (k : Int) := Int.natCast_nonneg _
    by_cases hlt : k < s.length
    · have i2 : (k : Int) < (s.length : Int) := by omega
      obtain ⟨⟨m, c0, A0, rfl, hm, hrow⟩, hbw⟩ := HC.out
      clear HC
      rcases HRS.out.2.2 with h | ⟨kb, off, hS0, hbB, hl⟩
      · rw [h] at hlt; simp at hlt
      subst hS0
      have hlr : RepLP wr (fun b => b < w.heap.size) (flat s) kb off := RepLP.mono (fun _ h => h) (fun p hp => hbw.cell hp) _ _ _ hbB hl
      obtain ⟨A, c, A', c', h8⟩ := hlr.get8 k hlt
      have hws := hbw.size
      obtain ⟨hx, ht⟩ := HSZ.out s[k] (List.getElem_mem hlt)
      have AP := rApply_any w.heap.size t T0 tc HTZ.out s[k].2 A' c' wr ht hws (HRT.out.mono (fun _ h => h) (fun p hp => hbw.cell hp)) h8.r2
      have hae : ApplyE t s[k].2 = applyE t s[k].2 := if_neg (by rw [← HVT.out]; simp)
      rw [hae] at AP
      have hst := errS_drop t s k hlt
      rw [← HE.out] at hst
      have hnx := mapS_take_succ t s k hlt
      have happ : applyE t s[k].2 = if s[k].2.valid ≠ 0 then (.mk 0 ⟨#[]⟩ 0 [], s[k].2.valid) else if (s[k].2.put t).valid ≠ 0 then (.mk 0 ⟨#[]⟩ 0 [], (s[k].2.put t).valid) else (s[k].2.put t, 0) := rfl
      obtain ⟨q, hq⟩ : ∃ q, q = applyE t s[k].2 := ⟨_, rfl⟩
      rw [← hq] at AP hst happ
      clear hq hae
      have H8 := Lib.hid h8
      obtain ⟨a0, a1, a2, a3, b0, b1, b2, b3, -, -⟩ := h8
      have HST := Lib.hid hst; clear hst
      have HNX := Lib.hid hnx; clear hnx
      have HAP := Lib.hid happ; clear happ
      have HROW := Lib.hid hrow; clear hrow
      have HBW := Lib.hid hbw; clear hbw
      have HM := Lib.hid hm; clear hm hlr hl
      simp only [Tm.val] at AP
      go_wp2_with fail
      refine AP.mono ?_; clear AP
      rintro e w3 ⟨A3, c3, rfl, hrep3, hb3⟩
      have hs3 := hb3.size
      obtain ⟨u, n⟩ := q
      obtain ⟨X, hX⟩ : ∃ X, X = w3.alloc (.cells #[.int .i64 u.kind, .string u.name, .int .i64 u.sort, .slice A3 u.kids.length c3] 30) := ⟨_, rfl⟩
      have hbX : Below w3.heap.size w3 X := by rw [hX]; exact below1 (Nat.le_refl _) _
      have hsX : X.heap.size = w3.heap.size + 1 := by rw [hX]; simp
      have hux : X.heap[w3.heap.size]? = some (.cells #[.int .i64 u.kind, .string u.name, .int .i64 u.sort, .slice A3 u.kids.length c3] 30 (0, 0)) := by rw [hX]; exact heap_alloc_new _ _
      have hbXr : Below wr.heap.size wr X := below_then hb3 hbX hs3
      have hrepX : RepT X X.heap.size u A3 c3 := RepP.mono (fun b h => by rcases h with h | ⟨_, h⟩ <;> omega) (fun p h => hbX.cell (by rcases h with h | ⟨_, h⟩ <;> omega)) _ _ _ hrep3
      have HX := Lib.hid hX; clear hX
      have HUX := Lib.hid hux; clear hux
      have HBR := Lib.hid hbXr; clear hbXr hbX
      have HREP := Lib.hid hrepX; clear hrepX hrep3 hb3 a0 a1 a2 a3 b0 b1 b2 b3
      simp only [Tm.val]
      rcases eq_facts n 0 with ⟨h0, e2, n2⟩ | ⟨h0, e2, n2⟩
      rotate_left
      · have he : errS t s = n := HST.out.trans (if_pos h0)
        have hr := HR2.out.trans (if_pos (by rw [he]; exact h0))
        rw [he] at hr
        subst hr
        clear HR2 he HST HE h0
        go_wp2_with fail
        go_ret2
        rw [← HX.out]
        exact rcomposed_err (HBW.out.trans (HBR.out.mono hws))
      have HE2 := Lib.hid (HST.out.trans (if_neg (by simpa using h0))); clear HST HE
      have hu : u = s[k].2.put t ∧ u.size ≤ 400 := by
        have h1 := HAP.out
        split at h1
        · rename_i g; injection h1 with _ g2; exact absurd (g2.symm.trans h0) g
        · split at h1
          · rename_i g; injection h1 with _ g2; exact absurd (g2.symm.trans h0) g
          · rename_i g; injection h1 with g1 _; exact ⟨g1, by rw [g1]; exact valid_size (by simpa using g)⟩
      obtain ⟨hu, hus⟩ := hu
      have HNX2 := Lib.hid HNX.out; clear HNX
      rw [← hu] at HNX2
      clear hu HAP h0
      have hjz : SizeB (sortS (mapS t (s.take k))) := fun b hb => HJS.out (s.take k) [] (fun b h => List.mem_of_mem_take h) (fun b h => by simp at h) b (by
        rw [show restS s [] = [] from rfl, List.append_nil]; exact sortS_mem hb)
      have hjl : (sortS (mapS t (s.take k))).length ≤ 1000000 := by rw [sortS_length]; have := mapS_length t (s.take k); simp at this; omega
      have BD := fun Z (hZ : Below X.heap.size X Z) => rbind_any (sortS (mapS t (s.take k))) A0 c0 s[k].1 u A c A3 c3 Z hjz hjl hx (by omega)
        (HROW.out.mono (fun b (hb : b < wr.heap.size) => by have := hZ.size; have := HBR.out.size; omega) (fun p (hp : p.block < wr.heap.size) => (hZ.cell (by have := HBR.out.size; omega)).trans (HBR.out.cell hp)))
        (RepP.mono (fun b (hb : b < w.heap.size) => by have := hZ.size; have := HBR.out.size; omega) (fun p (hp : p.block < w.heap.size) => (hZ.cell (by have := HBR.out.size; omega)).trans (HBR.out.cell (by omega))) _ _ _ H8.out.r1)
        (HREP.out.go hZ hZ.size)
      rw [← HM.out] at BD
      rw [bindR_step, ← HNX2.out] at BD
      have BD := Lib.hid BD
      have hbS : ∀ Z, Below X.heap.size X Z → At8 Z (fun b => b < w.heap.size) kb (off + k * 8) s[k] A c A' c' := fun Z hZ => by
        have hc : ∀ o, Z.cell? ⟨kb, o, none⟩ = wr.cell? ⟨kb, o, none⟩ := fun o => (hZ.cell (by have := HBR.out.size; show kb < _; omega)).trans (HBR.out.cell (by show kb < _; omega))
        have h8 := H8.out
        have hr : ∀ (t : Tm) B e, RepP wr (fun b => b < w.heap.size) t B e → RepP Z (fun b => b < w.heap.size) t B e := fun t B e h => RepP.mono (fun _ h => h) (fun p hp => (hZ.cell (by have := HBR.out.size; omega)).trans (HBR.out.cell (by omega))) _ _ _ h
        exact ⟨(hc _).trans h8.c0, (hc _).trans h8.c1, (hc _).trans h8.c2, (hc _).trans h8.c3, (hc _).trans h8.c4, (hc _).trans h8.c5, (hc _).trans h8.c6, (hc _).trans h8.c7, hr _ _ _ h8.r1, hr _ _ _ h8.r2⟩
      have HBS := Lib.hid hbS; clear hbS hjz hjl
      have HUB : Hid (∀ Z, Below X.heap.size X Z → Z.heap[w3.heap.size]? = some (.cells #[.int .i64 u.kind, .string u.name, .int .i64 u.sort, .slice A3 u.kids.length c3] 30 (0, 0))) := fun Z hZ => (hZ.block _ (by omega)).trans HUX.out
      simp only [Tm.val] at BD
      go_wp2_with fail
      rw [← HX.out]
      refine wp_region_mix (fun Y => Below X.drew.heap.size X.drew Y) 8 (.held 0 (.held 1 (.held 2 (.held 3 (.held 4 (.held 5 (.held 6 (.op 7 (.op 8 .nil))))))))) mixed (by kernel_rfl) ?_
      have HXD : Hid (Below X.heap.size X X.drew) := (Below.refl _ _).drew
      have hXd : ∀ Y, Below X.drew.heap.size X.drew Y → Below X.heap.size X Y := fun Y hY => HXD.out.trans hY
      have HXY := Lib.hid hXd; clear hXd
      refine mix_take (v := .slice A0 m c0) rfl rfl (fun _ _ _ h => h) (Below.refl _ _) (fun Y hY => by (try simp only [Act.put]); go_simp) ?_
      refine mix_take (v := .slice (some ⟨kb, off, none⟩) s.length sc) rfl rfl (fun _ _ _ h => h) (Below.refl _ _) (fun Y hY => by (try simp only [Act.put]); go_simp) ?_
      refine mix_take (v := .int .i64 k) rfl rfl (fun _ _ _ h => h) (Below.refl _ _) (fun Y hY => by (try simp only [Act.put]); go_simp) ?_
      refine mix_take (v := .pointer (some ⟨kb, off + k * 8, none⟩)) rfl rfl (fun _ _ _ h => h) (Below.refl _ _) (fun Y hY => by (try simp only [Act.put]); go_simp) ?_
      refine mix_take (v := .pointer (some ⟨kb, off + k * 8, none⟩)) rfl rfl (fun _ _ _ h => h) (Below.refl _ _) (fun Y hY => by (try simp only [Act.put]); go_simp) ?_
      refine mix_take (v := .agg #[.int .i64 s[k].1.kind, .string s[k].1.name, .int .i64 s[k].1.sort, .slice A s[k].1.kids.length c]) rfl rfl (fun _ _ _ h => h) (Below.refl _ _) (fun Y hY => by
        obtain ⟨z0, z1, z2, z3, -, -, -, -, -, -⟩ := HBS.out Y (HXY.out Y hY)
        (try simp only [Act.put]); go_simp) ?_
      refine mix_take (v := .agg #[.int .i64 u.kind, .string u.name, .int .i64 u.sort, .slice A3 u.kids.length c3]) rfl rfl (fun _ _ _ h => h) (Below.refl _ _) (fun Y hY => by
        obtain ⟨z0, z1, z2, z3, -⟩ := box_at (HUB.out Y (HXY.out Y hY))
        (try simp only [Act.put]); go_simp) ?_
      simp only [Act.put, List.setIfInBounds_toArray]
      refine mix_op rfl rfl (fun K hK => ?_)
      go_wp2_with fail
      refine (BD.out _ HXD.out).mono ?_; clear BD
      rintro e w5 ⟨A5, c5, rfl, hr5, hb5⟩
      refine hK _ _ ⟨fun _ => hb5, ?_⟩; clear hK K
      have HR5 := Lib.hid hr5; clear hr5
      have HB5 := Lib.hid (below_then HBR.out (HXY.out _ hb5) HBR.out.size); clear hb5
      refine mix_op rfl rfl (fun K hK => ?_)
      go_wp2_with fail
      refine ⟨fun h => absurd h (by decide), mix_nil ?_⟩
      go_wp2_with fail
      go_roundw
      case rel => exact ⟨k + 1, by omega, by go_num, ⟨⟨_, c5, A5, rfl, rfl, HR5.out⟩, HBW.out.trans (HB5.out.mono hws)⟩, HE2.out⟩
      case measure => simp [intOf]; omega
    · obtain rfl : k = s.length := by omega
      obtain ⟨⟨m, c0, A0, rfl, hm, hrow⟩, hbw⟩ := HC.out
      have hE : errS t s = 0 := by have := HE.out; rw [List.drop_length] at this; exact this
      have HR3 := Lib.hid (HR2.out.trans (if_neg (by rw [hE]; simp))); clear HR2 hE HE HC
      rw [List.take_length] at hm hrow
      have HR0 : Hid (RRel w (sortS (mapS t s ++ restS s (t.take 0))) (.slice A0 m c0) wr) := by
        rw [List.take_zero, show restS s [] = [] from rfl, List.append_nil]; exact ⟨⟨m, c0, A0, rfl, hm, hrow⟩, hbw⟩
      clear hm hrow hbw
      go_wp2_with fail
      go_loopw [8, 12] (fun v i wr => ∃ k : Nat, k ≤ t.length ∧ i = .int .i64 k ∧ Hid (RRel w (sortS (mapS t s ++ restS s (t.take k))) v wr)) (fun _ i _ => t.length - (intOf i).toNat)
      case atStart => exact ⟨0, Nat.zero_le _, rfl, HR0⟩
      case round =>
        obtain ⟨k, hk, rfl, HC⟩ := hrel
        have i1 : (0 : Int) ≤ (k : Int) := Int.natCast_nonneg _
        obtain ⟨⟨m, c0, A0, rfl, hm, hrow⟩, hbw⟩ := HC.out
        clear HC
        have hws := hbw.size
        have HROW := Lib.hid hrow; clear hrow
        have HBW := Lib.hid hbw; clear hbw
        have HM := Lib.hid hm; clear hm
        by_cases hlt : k < t.length
        · have i2 : (k : Int) < (t.length : Int) := by omega
          rcases HRT.out.2.2 with h | ⟨kb, off, hT0, hbB, hl⟩
          · rw [h] at hlt; simp at hlt
          subst hT0
          obtain ⟨A, c, A', c', h8⟩ := hl.get8 k hlt
          have HAT : Hid (∀ Z, Below w.heap.size w Z → At8 Z (fun b => b < w.heap.size) kb (off + k * 8) t[k] A c A' c') := fun Z hZ => by
            have hc : ∀ o, Z.cell? ⟨kb, o, none⟩ = w.cell? ⟨kb, o, none⟩ := fun o => hZ.cell hbB
            have hr : ∀ (t : Tm) B e, RepP w (fun b => b < w.heap.size) t B e → RepP Z (fun b => b < w.heap.size) t B e := fun t B e h => RepP.mono (fun _ h => h) (fun p hp => hZ.cell hp) _ _ _ h
            exact ⟨(hc _).trans h8.c0, (hc _).trans h8.c1, (hc _).trans h8.c2, (hc _).trans h8.c3, (hc _).trans h8.c4, (hc _).trans h8.c5, (hc _).trans h8.c6, (hc _).trans h8.c7, hr _ _ _ h8.r1, hr _ _ _ h8.r2⟩
          clear h8 hl
          obtain ⟨hx, ht⟩ := HTZ.out t[k] (List.getElem_mem hlt)
          have hne : t[k].1 ≠ t[k].2 := (bindE_zero (HZT.out.2.1 _ (List.getElem_mem hlt))).2.2.1
          have hnx := restS_take_succ s t k hlt
          have RB := rbound_any s S0 sc t[k].1 A c wr HSZ.out hx (HRS.out.go HBW.out hws) ((HAT.out wr HBW.out).r1.mono' hws)
          obtain ⟨q, hq⟩ : ∃ q, q = hasS s t[k].1 := ⟨_, rfl⟩
          rw [← hq] at RB hnx
          clear hq
          have RB := Lib.hid RB
          have HNX := Lib.hid hnx; clear hnx
          obtain ⟨a0, a1, a2, a3, b0, b1, b2, b3, -, -⟩ := HAT.out wr HBW.out
          simp only [Tm.val] at RB
          cases q with
          | true =>
            have HE : Hid (mapS t s ++ restS s (t.take (k + 1)) = mapS t s ++ restS s (t.take k)) := by rw [HNX.out]; simp [Hid]
            clear HNX
            go_wp2_with fail
            refine RB.out.mono ?_; clear RB a0 a1 a2 a3 b0 b1 b2 b3
            rintro e w4 ⟨rfl, hl4⟩
            go_wp2_with fail
            go_roundw
            case rel => exact ⟨k + 1, by omega, by go_num, by rw [HE.out]; exact ⟨⟨m, c0, A0, rfl, HM.out, HROW.out.go hl4.below hl4.below.size⟩, HBW.out.trans (hl4.below.mono hws)⟩⟩
            case measure => simp [intOf]; omega
          | false =>
            have HE : Hid (mapS t s ++ restS s (t.take (k + 1)) = mapS t s ++ restS s (t.take k) ++ [t[k]]) := by rw [HNX.out]; simp [Hid]
            clear HNX
            go_wp2_with fail
            refine RB.out.mono ?_; clear RB a0 a1 a2 a3 b0 b1 b2 b3
            rintro e w4 ⟨rfl, hl4⟩
            have HB4 := Lib.hid (HBW.out.trans (hl4.below.mono hws))
            have HROW4 := Lib.hid (HROW.out.go hl4.below hl4.below.size); clear HROW
            have hjz : SizeB (sortS (mapS t s ++ restS s (t.take k))) := fun b hb => HJS.out s (t.take k) (fun b h => h) (fun b h => List.mem_of_mem_take h) b (sortS_mem hb)
            have hjl : (sortS (mapS t s ++ restS s (t.take k))).length ≤ 1000000 := by rw [sortS_length, List.length_append]; have := mapS_length t s; have := restS_length s (t.take k); simp at this; omega
            have BD := fun Z (hZ : Below w4.heap.size w4 Z) => rbind_any (sortS (mapS t s ++ restS s (t.take k))) A0 c0 t[k].1 t[k].2 A c A' c' Z hjz hjl hx ht (HROW4.out.go hZ hZ.size)
              ((HAT.out Z (HB4.out.trans (hZ.mono HB4.out.size))).r1.mono' (Nat.le_trans HB4.out.size hZ.size)) ((HAT.out Z (HB4.out.trans (hZ.mono HB4.out.size))).r2.mono' (Nat.le_trans HB4.out.size hZ.size))
            rw [← HM.out] at BD
            rw [bindR_step, if_neg hne, show [(t[k].1, t[k].2)] = [t[k]] from rfl, ← HE.out] at BD
            have BD := Lib.hid BD; clear hjz hjl hl4 HE
            simp only [Tm.val] at BD
            go_wp2_with fail
            refine wp_region_mix (fun Y => Below w4.drew.heap.size w4.drew Y) 12 (.held 0 (.held 1 (.held 2 (.held 3 (.held 4 (.held 5 (.held 6 (.held 7 (.held 8 (.held 9 (.held 10 (.op 11 (.op 12 .nil))))))))))))) mixed (by kernel_rfl) ?_
            have HXD : Hid (Below w4.heap.size w4 w4.drew) := (Below.refl _ _).drew
            have HAY : Hid (∀ Y, Below w4.drew.heap.size w4.drew Y → At8 Y (fun b => b < w.heap.size) kb (off + k * 8) t[k] A c A' c') := fun Y hY => HAT.out Y (HB4.out.trans ((HXD.out.trans hY).mono HB4.out.size))
            refine mix_take (v := .slice A0 m c0) rfl rfl (fun _ _ _ h => h) (Below.refl _ _) (fun Y hY => by (try simp only [Act.put]); go_simp) ?_
            refine mix_take (v := .slice (some ⟨kb, off, none⟩) t.length tc) rfl rfl (fun _ _ _ h => h) (Below.refl _ _) (fun Y hY => by (try simp only [Act.put]); go_simp) ?_
            refine mix_take (v := .int .i64 k) rfl rfl (fun _ _ _ h => h) (Below.refl _ _) (fun Y hY => by (try simp only [Act.put]); go_simp) ?_
            refine mix_take (v := .pointer (some ⟨kb, off + k * 8, none⟩)) rfl rfl (fun _ _ _ h => h) (Below.refl _ _) (fun Y hY => by (try simp only [Act.put]); go_simp) ?_
            refine mix_take (v := .pointer (some ⟨kb, off + k * 8, none⟩)) rfl rfl (fun _ _ _ h => h) (Below.refl _ _) (fun Y hY => by (try simp only [Act.put]); go_simp) ?_
            refine mix_take (v := .agg #[.int .i64 t[k].1.kind, .string t[k].1.name, .int .i64 t[k].1.sort, .slice A t[k].1.kids.length c]) rfl rfl (fun _ _ _ h => h) (Below.refl _ _) (fun Y hY => by
              obtain ⟨z0, z1, z2, z3, -, -, -, -, -, -⟩ := HAY.out Y hY
              (try simp only [Act.put]); go_simp) ?_
            refine mix_take (v := .slice (some ⟨kb, off, none⟩) t.length tc) rfl rfl (fun _ _ _ h => h) (Below.refl _ _) (fun Y hY => by (try simp only [Act.put]); go_simp) ?_
            refine mix_take (v := .int .i64 k) rfl rfl (fun _ _ _ h => h) (Below.refl _ _) (fun Y hY => by (try simp only [Act.put]); go_simp) ?_
            refine mix_take (v := .pointer (some ⟨kb, off + k * 8, none⟩)) rfl rfl (fun _ _ _ h => h) (Below.refl _ _) (fun Y hY => by (try simp only [Act.put]); go_simp) ?_
            refine mix_take (v := .pointer (some ⟨kb, off + k * 8 + 4, none⟩)) rfl rfl (fun _ _ _ h => h) (Below.refl _ _) (fun Y hY => by (try simp only [Act.put]); go_simp) ?_
            refine mix_take (v := .agg #[.int .i64 t[k].2.kind, .string t[k].2.name, .int .i64 t[k].2.sort, .slice A' t[k].2.kids.length c']) rfl rfl (fun _ _ _ h => h) (Below.refl _ _) (fun Y hY => by
              obtain ⟨-, -, -, -, z0, z1, z2, z3, -, -⟩ := HAY.out Y hY
              (try simp only [Act.put]); go_simp) ?_
            simp only [Act.put, List.setIfInBounds_toArray]
            refine mix_op rfl rfl (fun K hK => ?_)
            go_wp2_with fail
            refine (BD.out _ HXD.out).mono ?_; clear BD
            rintro e w5 ⟨A5, c5, rfl, hr5, hb5⟩
            refine hK _ _ ⟨fun _ => hb5, ?_⟩; clear hK K
            have HR5 := Lib.hid hr5; clear hr5
            have HB5 := Lib.hid (HB4.out.trans ((HXD.out.trans hb5).mono HB4.out.size)); clear hb5
            refine mix_op rfl rfl (fun K hK => ?_)
            go_wp2_with fail
            refine ⟨fun h => absurd h (by decide), mix_nil ?_⟩
            go_wp2_with fail
            go_roundw
            case rel => exact ⟨k + 1, by omega, by go_num, ⟨⟨_, c5, A5, rfl, rfl, HR5.out⟩, HB5.out⟩⟩
            case measure => simp [intOf]; omega
        · obtain rfl : k = t.length := by omega
          have hm := HM.out
          have hrow := HROW.out
          rw [List.take_length] at hm hrow
          have hml : (joinS s t).length = m := by rw [hm, sortS_length]; rfl
          rw [hml] at HR3
          clear HM HROW
          have HROW := Lib.hid hrow; clear hrow
          have HM := Lib.hid hm; clear hm
          have hm4 : m ≤ 400 := by rw [← hml]; unfold joinS; rw [List.length_append]; have := mapS_length t s; have := restS_length s t; omega
          clear hml
          by_cases hbig : 200 < m
          · have hr := HR3.out.trans (if_pos hbig)
            subst hr
            clear HR3
            go_wp2_with fail
            go_ret2
            exact rcomposed_err HBW.out
          have hr := HR3.out.trans (if_neg hbig)
          subst hr
          clear HR3
          go_wp2_with fail
          go_ret2
          exact ⟨A0, c0, by show _ = Ending.returned (.tuple #[.slice A0 (sortS (joinS s t)).length c0, .int .i64 0]); rw [show sortS (joinS s t) = sortS (mapS t s ++ restS s t) from rfl, ← HM.out]; rfl, HROW.out, HBW.out⟩
end Go.Proofs.YtkbkgiihgghbeaaDoor
