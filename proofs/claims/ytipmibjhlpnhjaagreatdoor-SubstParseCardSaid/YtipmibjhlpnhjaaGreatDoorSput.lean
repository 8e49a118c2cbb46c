/- subst.put. -/
import Derived.Test.YtipmibjhlpnhjaaGreatDoorSfind
namespace Go.Proofs.YtipmibjhlpnhjaaGreatDoor
open Go.RowKit Go.Sort

theorem Tm.put_app (s : List Bd) (k : Int) (n : ByteArray) (so : Int) (l : List Tm) (h : k ≠ 1) : (Tm.mk k n so l).put s = .mk k n so (Tm.puts s l) := by rw [Tm.put, if_neg h]
theorem Tm.put_var (s : List Bd) (t : Tm) (h : t.kind = 1) : t.put s = getS s t := by
  obtain ⟨k, n, so, l⟩ := t
  rw [Tm.put]; exact if_pos h
theorem getS_size {s : List Bd} (hs : SizeB s) {x : Tm} (hx : x.size ≤ 1000000) : (getS s x).size ≤ 1000000 := by
  induction s with
  | nil => exact hx
  | cons b r ih =>
    rw [getS]
    split
    · exact (hs b (List.mem_cons_self ..)).2
    · exact ih (fun c hc => hs c (List.mem_cons_of_mem _ hc))

set_option maxHeartbeats 4000000 in
set_option maxRecDepth 100000 in
theorem sput_var (s : List Bd) (S0 : Option Addr) (scap : Nat) (hslen : s.length ≤ 1000000) (hsp : SortedB s) (hssz : SizeB s) (t : Tm) (A : Option Addr) (cap : Nat) (w : World) (hn : t.size ≤ 1000000) (hk : t.kind = 1) (hrs : RepB w (fun b => b < w.heap.size) s S0 scap) (hrep : RepT w w.heap.size t A cap) :
    Calls Tryz.prog 142 #[.slice S0 s.length scap, t.val A cap] w (Fresh (t.put s) w) := by
  rw [Tm.put_var s t hk]
  obtain ⟨V, hV⟩ : ∃ V, V = (w.alloc (.cells #[.int .i64 t.kind, .string t.name, .int .i64 t.sort, .slice A t.kids.length cap] 24)).alloc (.cells #[.int .i64 0, .string ⟨#[]⟩, .int .i64 0, .slice none 0 0] 24) := ⟨_, rfl⟩
  have h2 : Two w t (.mk 0 ⟨#[]⟩ 0 []) A none cap 0 V := by rw [hV]; exact Two.new w t (.mk 0 ⟨#[]⟩ 0 []) A none cap 0
  have FD := Lib.hid (find_any s S0 scap t A cap V hslen hsp hssz hn (hrs.go h2.lay.below h2.lay.size) (hrep.go h2.lay.below h2.lay.size))
  have hgs := getS_size hssz hn
  have HV := Lib.hid hV; clear hV
  have H2 := Lib.hid h2; clear h2 hrs hrep
  have kq : (t.kind == 1) = true := by rw [beq_iff_eq]; exact hk
  obtain ⟨a0, a1, a2, a3, -⟩ := box_at H2.out.one
  clear hk
  simp only [Tm.val] at FD ⊢
  go_enter Tryz.func142, Tryz.ntmps142
  go_wp2_with fail
  rw [← HV.out]
  go_wp2_with fail
  refine FD.out.mono ?_; clear FD a0 a1 a2 a3 HV
  rintro e w1 ⟨A1, c1, rfl, hr1, hl1⟩
  have H21 := Lib.hid (H2.out.go hl1)
  obtain ⟨u, hu⟩ : ∃ u, u = getS s t := ⟨_, rfl⟩
  rw [← hu] at hr1 hgs ⊢
  obtain ⟨X, hX⟩ : ∃ X, X = w1.alloc (.cells #[.int .i64 u.kind, .string u.name, .int .i64 u.sort, .slice A1 u.kids.length c1] 24) := ⟨_, rfl⟩
  have hbX : Below w1.heap.size w1 X := by rw [hX]; exact below1 (Nat.le_refl _) _
  have hlX : Lay w1.heap.size w1 X := by rw [hX]; exact (Lay.refl _ _).alloc (Nat.le_refl _) _
  have H2X := Lib.hid (H21.out.go hlX)
  have CL := Lib.hid (sclone_any 1000000 u A1 c1 X hgs (Nat.le_refl _) (hr1.go (below_then hl1.below hbX hl1.size) (Nat.le_trans hl1.size hbX.size)))
  have HX := Lib.hid hX; clear hX hr1 hl1
  have HU := Lib.hid hu; clear hu
  simp only [Tm.val] at CL ⊢
  go_wp2_with fail
  rw [← HX.out]
  refine CL.out.mono ?_; clear CL
  rintro e w3 ⟨A3, c3, rfl, hrep3, hb3⟩
  have hs3 := hb3.size
  have hlt := H2X.out.lt
  have hc3 := (hb3.block _ hlt).trans H2X.out.two
  obtain ⟨b0, b1, b2, b3, bf⟩ := box_at hc3
  have HB3 := Lib.hid (H2X.out.lay.below.trans (hb3.mono (by omega)))
  have HREP := Lib.hid hrep3; clear hrep3 hc3 hb3
  go_wp2_with fail
  refine bodyPost_ret (v := u.val A3 c3) ?_ rfl ?_
  · simp [results, Tryz.results142, go_sem, b0, b1, b2, b3, Tm.val]
  unfold Fresh
  rw [← HU.out]
  refine ⟨A3, c3, rfl, ?_, ?_⟩
  · refine RepP.mono ?_ ?_ _ _ _ HREP.out
    · rintro b ⟨h1, h2⟩; exact ⟨by omega, by simp [World.setCell]; omega⟩
    · rintro q ⟨h1, h2⟩
      have hq : ∀ o, (⟨w.heap.size + 1, o, none⟩ : Addr) ≠ q := fun o e => by rw [← e] at h1; simp at h1; omega
      rw [World.cell?_setCell_other _ _ _ _ (hq _), World.cell?_setCell_other _ _ _ _ (hq _), World.cell?_setCell_other _ _ _ _ (hq _), World.cell?_setCell_other _ _ _ _ (hq _)]
  · iterate 4 refine Below.setCell ?_ (by show w.heap.size ≤ w.heap.size + 1; omega) _
    exact HB3.out

set_option maxHeartbeats 4000000 in
set_option maxRecDepth 100000 in
theorem sput_any (s : List Bd) (S0 : Option Addr) (scap : Nat) (hslen : s.length ≤ 1000000) (hsp : SortedB s) (hssz : SizeB s) (n : Nat) : ∀ (t : Tm) (A : Option Addr) (cap : Nat) (w : World), t.size ≤ n → n ≤ 1000000 → RepB w (fun b => b < w.heap.size) s S0 scap → RepT w w.heap.size t A cap →
    Calls Tryz.prog 142 #[.slice S0 s.length scap, t.val A cap] w (Fresh (t.put s) w) := by
  have mixed : Tryz.prog.follows .mixedOrders = true := by kernel_rfl
  induction n with
  | zero => intro t _ _ _ h; have := t.size_pos; omega
  | succ n ih =>
    intro t A cap w hn hb hrs hrep
    by_cases hk : t.kind = 1
    · exact sput_var s S0 scap hslen hsp hssz t A cap w (by omega) hk hrs hrep
    obtain ⟨tk, tn, ts, l⟩ := t
    have hk' : tk ≠ 1 := hk
    rw [Tm.put_app s tk tn ts l hk']
    have kq : (tk == 1) = false := by rw [beq_eq_false_iff_ne]; exact hk'
    clear hk hk'
    have HRS := Lib.hid hrs; clear hrs
    rw [Tm.size] at hn
    rw [RepT_mk] at hrep
    obtain ⟨hr1, hr2⟩ := hrep
    have hls := Tm.length_le_sizes l
    obtain ⟨W1, hW1⟩ : ∃ W1, W1 = w.alloc (.cells #[.int .i64 tk, .string tn, .int .i64 ts, .slice A l.length cap] 24) := ⟨_, rfl⟩
    obtain ⟨W2, hW2⟩ : ∃ W2, W2 = W1.alloc (.cells #[.int .i64 0, .string ⟨#[]⟩, .int .i64 0, .slice none 0 0] 24) := ⟨_, rfl⟩
    have s1 : W1.heap.size = w.heap.size + 1 := by rw [hW1]; simp
    have s2 : W2.heap.size = w.heap.size + 1 + 1 := by rw [hW2]; simp [s1]
    have b1 : Below w.heap.size w W1 := by rw [hW1]; exact below1 (Nat.le_refl _) _
    have b2 : Below W1.heap.size W1 W2 := by rw [hW2]; exact below1 (Nat.le_refl _) _
    have hB : Below w.heap.size w W2 := b1.trans (b2.mono (by omega))
    have hx1 : W2.heap[w.heap.size]? = some (.cells #[.int .i64 tk, .string tn, .int .i64 ts, .slice A l.length cap] 24 (0, 0)) := by rw [b2.block _ (by omega), hW1]; exact heap_alloc_new _ _
    have hx2 : W2.heap[w.heap.size + 1]? = some (.cells #[.int .i64 0, .string ⟨#[]⟩, .int .i64 0, .slice none 0 0] 24 (0, 0)) := by rw [hW2, ← s1]; exact heap_alloc_new _ _
    have TC := Lib.hid (tclone_any (fun b => b < w.heap.size) l A cap W2 (fun b h => by omega) (by omega) (RepS.mono (fun _ h => h) (fun p hp => hB.cell hp) hr2))
    have HW : Hid (W2 = (w.alloc (.cells #[.int .i64 tk, .string tn, .int .i64 ts, .slice A l.length cap] 24)).alloc (.cells #[.int .i64 0, .string ⟨#[]⟩, .int .i64 0, .slice none 0 0] 24)) := by rw [hW2, hW1]; exact rfl
    obtain ⟨r0, r1, r2, r3, -⟩ := box_at hx1
    have HX1 := Lib.hid hx1; clear hx1
    have HX2 := Lib.hid hx2; clear hx2
    have HB := Lib.hid hB; clear hB b1 b2 hW1 hW2 s1
    have IH := Lib.hid ih; clear ih
    simp only [Tm.val, Tm.kind, Tm.name, Tm.sort, Tm.kids]
    go_enter Tryz.func142, Tryz.ntmps142
    go_wp2_with fail
    rw [← HW.out]
    go_wp2_with fail
    refine TC.out.mono ?_; clear TC r0 r1 r2 r3 HW
    rintro e w3 ⟨hb3, A3, c3, its, rfl, hits, hrow⟩
    have hs3 := hb3.size
    have hy1 := (hb3.block w.heap.size (by omega)).trans HX1.out
    have hy2 := (hb3.block (w.heap.size + 1) (by omega)).trans HX2.out
    obtain ⟨r0, r1, r2, r3, rf⟩ := box_at hy1
    have hil : its.length = l.length := by rw [← hits]; simp
    obtain ⟨W4, hW4⟩ : ∃ W4, W4 = w3.setCell ⟨w.heap.size, 3, none⟩ (.slice A3 l.length c3) := ⟨_, rfl⟩
    have hz1 : W4.heap[w.heap.size]? = some (.cells #[.int .i64 tk, .string tn, .int .i64 ts, .slice A3 l.length c3] 24 (0, 0)) := by rw [hW4]; exact heap_set3 hy1
    have hz2 : W4.heap[w.heap.size + 1]? = some (.cells #[.int .i64 0, .string ⟨#[]⟩, .int .i64 0, .slice none 0 0] 24 (0, 0)) := by rw [hW4]; exact (Below.heap_setCell _ _ _ _ (by show w.heap.size + 1 ≠ w.heap.size; omega)).trans hy2
    have hrow4 : RowT W4 W2.heap.size (fun b => b < w.heap.size ∨ W2.heap.size ≤ b) (.slice A3 l.length c3) its := by
      rw [hW4]
      have h0 := hrow.setCell (p := ⟨w.heap.size, 3, none⟩) (by show ¬ (w.heap.size < w.heap.size); omega) (by show w.heap.size < W2.heap.size; omega) (.slice A3 l.length c3)
      exact ⟨h0.own, fun x hx => RepP.mono (fun b ⟨h1, h2⟩ => ⟨.inl h1, h2⟩) (fun _ _ => rfl) _ _ _ (h0.reps x hx)⟩
    have hB4 : Below w.heap.size w W4 := by rw [hW4]; exact (HB.out.trans (hb3.mono (by omega))).setCell (p := ⟨w.heap.size, 3, none⟩) (Nat.le_refl _) _
    have hs4 : W2.heap.size ≤ W4.heap.size := by rw [hW4]; simpa [World.setCell] using hs3
    have HW4 := Lib.hid hW4; clear hW4
    have HITS := Lib.hid hits
    have hsz : ∀ x ∈ its, x.1.size ≤ n := fun x hx => by
      have : x.1 ∈ l := by rw [← hits]; exact List.mem_map_of_mem hx
      obtain ⟨j, hj, e⟩ := List.getElem_of_mem this
      have := Tm.sizes_get l j hj
      rw [e] at this; omega
    have HSZ := Lib.hid hsz; clear hsz hits
    have HZ1 := Lib.hid hz1; clear hz1
    have HZ2 := Lib.hid hz2; clear hz2
    have HROW := Lib.hid hrow4; clear hrow4 hrow
    have HB4 := Lib.hid hB4; clear hB4 hb3 hy1 hy2 HB HX1 HX2
    go_wp2_with fail
    rw [← HW4.out]
    clear r0 r1 r2 r3 rf
    obtain ⟨r0, r1, r2, r3, rf⟩ := box_at HZ1.out
    go_wp2_with fail
    clear r0 r1 r2 r3 rf
    go_loopw [27] (fun a wr => ∃ (i : Nat) (cur : List It), a = .int .i64 i ∧ i ≤ l.length ∧ cur.length = l.length ∧ Hid (RowT wr W2.heap.size (fun b => b < w.heap.size ∨ W2.heap.size ≤ b) (.slice A3 l.length c3) cur) ∧
        Hid (∀ j, (h : j < cur.length) → (h' : j < l.length) → cur[j].1 = if j < i then l[j].put s else l[j]) ∧ Hid (∀ j, (h : j < cur.length) → j < i → RepP wr (fun b => W2.heap.size ≤ b ∧ b < wr.heap.size ∧ (Value.slice A3 l.length c3).ownBlock ≠ some b) cur[j].1 cur[j].2.1 cur[j].2.2) ∧ Hid (Below w.heap.size w wr) ∧
        Hid (wr.heap[w.heap.size]? = some (.cells #[.int .i64 tk, .string tn, .int .i64 ts, .slice A3 l.length c3] 24 (0, 0))) ∧ Hid (wr.heap[w.heap.size + 1]? = some (.cells #[.int .i64 0, .string ⟨#[]⟩, .int .i64 0, .slice none 0 0] 24 (0, 0))))
      (fun a _ => l.length - (intOf a).toNat)
    case atStart => exact ⟨0, its, rfl, Nat.zero_le _, hil, HROW.out, fun j h h' => by
      rw [if_neg (Nat.not_lt_zero j)]
      have := congrArg (·[j]?) HITS.out
      simpa [List.getElem?_eq_getElem h, List.getElem?_eq_getElem h'] using this, fun j _ h => absurd h (Nat.not_lt_zero j), HB4.out, HZ1.out, HZ2.out⟩
    case round =>
      obtain ⟨i, cur, rfl, hi, hcl, HR, HM, HF, HBW, HT, HC⟩ := hrel
      have hsw := (Array.getElem?_eq_some_iff.1 HC.out).1
      by_cases hlt : i < l.length
      · have hic : i < cur.length := by omega
        obtain ⟨g, rfl⟩ : ∃ g, A3 = some ⟨g, 0, none⟩ := by
          rcases HR.out.own.2 with ⟨_, h0⟩ | ⟨g, _, _, hv, _⟩
          · omega
          · injection hv with h1 _ _; exact ⟨g, h1⟩
        obtain ⟨k0, k1, k2, k3, _⟩ := HR.out.slot hcl.symm i hic
        have hgl := HR.out.lt g rfl
        have hci : cur[i].1 = l[i] := by have := HM.out i hic hlt; rw [if_neg (Nat.lt_irrefl i)] at this; exact this
        have hsi : cur[i].1.size ≤ n := by rw [hci]; have := Tm.sizes_get l i hlt; omega
        obtain ⟨it, hit⟩ : ∃ it, it = cur[i] := ⟨_, rfl⟩
        have hri := HR.out.reps cur[i] (List.getElem_mem _)
        rw [← hit] at k0 k1 k2 k3 hsi hri hci
        have HCI := Lib.hid hci; clear hci
        obtain ⟨X, hX⟩ : ∃ X, X = wr.alloc (.cells #[.int .i64 it.1.kind, .string it.1.name, .int .i64 it.1.sort, .slice it.2.1 it.1.kids.length it.2.2] 24) := ⟨_, rfl⟩
        have hbX : Below wr.heap.size wr X := by rw [hX]; exact below1 (Nat.le_refl _) _
        have hsX : X.heap.size = wr.heap.size + 1 := by rw [hX]; simp
        have hxb : X.heap[wr.heap.size]? = some (.cells #[.int .i64 it.1.kind, .string it.1.name, .int .i64 it.1.sort, .slice it.2.1 it.1.kids.length it.2.2] 24 (0, 0)) := by rw [hX]; exact heap_alloc_new _ _
        have hxt := (hbX.block _ (by omega)).trans HT.out
        have CL : Hid (Calls Tryz.prog 142 #[.slice S0 s.length scap, it.1.val it.2.1 it.2.2] X.drew (Fresh (it.1.put s) X.drew)) := IH.out it.1 it.2.1 it.2.2 X.drew hsi (by omega)
          (RepB.mono (w := w) (w' := X.drew) (P' := fun b => b < X.drew.heap.size) (fun b (h : b < w.heap.size) => by show b < X.heap.size; omega) (fun p (hp : p.block < w.heap.size) => (hbX.cell (show p.block < wr.heap.size by omega)).trans (HBW.out.cell hp)) HRS.out) (RepP.mono (fun b ⟨_, h2, _⟩ => by show b < X.heap.size; omega) (fun p ⟨_, h2, _⟩ => hbX.cell h2) _ _ _ hri)
        have HIT := Lib.hid hit; clear hit hri
        have i1 : (0 : Int) ≤ (i : Int) := Int.natCast_nonneg _
        have i2 : (i : Int) < (l.length : Int) := by omega
        have HX := Lib.hid hX; clear hX
        obtain ⟨d0, d1, d2, d3, -⟩ := box_at (show X.drew.heap[wr.heap.size]? = _ from hxb)
        obtain ⟨t0, t1, t2, t3, -⟩ := box_at (show X.drew.heap[w.heap.size]? = _ from hxt)
        have hbXd : Below wr.heap.size wr X.drew := hbX.drew
        have hsXd : X.drew.heap.size = wr.heap.size + 1 := hsX
        have HBX := Lib.hid hbXd; clear hbXd hbX hxb hxt hsX
        simp only [Tm.val] at CL
        go_wp2_with fail
        rw [← HX.out]
        go_wp2_with fail
        refine wp_region_mix (fun Y => Below X.drew.heap.size X.drew Y) 6 (.held 0 (.held 1 (.held 2 (.held 3 (.held 4 (.op 5 (.op 6 (.op 7 .nil)))))))) mixed (by kernel_rfl) ?_
        generalize X.drew = Z at *
        refine mix_take (v := .pointer (some ⟨w.heap.size, 3, none⟩)) rfl rfl (fun _ _ _ h => h) (Below.refl _ _) (fun Y hY => by (try simp only [Act.put]); go_simp) ?_
        refine mix_take (v := .slice (some ⟨g, 0, none⟩) l.length c3) rfl rfl (fun _ _ _ h => h) (Below.refl _ _) (fun Y hY => by
          have z3 := (hY.cell (p := ⟨w.heap.size, 3, none⟩) (by show w.heap.size < _; omega)).trans t3
          (try simp only [Act.put]); go_simp) ?_
        refine mix_take (v := .int .i64 i) rfl rfl (fun _ _ _ h => h) (Below.refl _ _) (fun Y hY => by (try simp only [Act.put]); go_simp) ?_
        refine mix_take (v := .slice S0 s.length scap) rfl rfl (fun _ _ _ h => h) (Below.refl _ _) (fun Y hY => by (try simp only [Act.put]); go_simp) ?_
        refine mix_take (v := .agg #[.int .i64 it.1.kind, .string it.1.name, .int .i64 it.1.sort, .slice it.2.1 it.1.kids.length it.2.2]) rfl rfl (fun _ _ _ h => h) (Below.refl _ _) (fun Y hY => by
          have z0 := (hY.cell (p := ⟨wr.heap.size, 0, none⟩) (by show wr.heap.size < _; omega)).trans d0
          have z1 := (hY.cell (p := ⟨wr.heap.size, 1, none⟩) (by show wr.heap.size < _; omega)).trans d1
          have z2 := (hY.cell (p := ⟨wr.heap.size, 2, none⟩) (by show wr.heap.size < _; omega)).trans d2
          have z3 := (hY.cell (p := ⟨wr.heap.size, 3, none⟩) (by show wr.heap.size < _; omega)).trans d3
          (try simp only [Act.put]); go_simp) ?_
        simp only [Act.put, List.setIfInBounds_toArray]
        refine mix_op rfl rfl (fun K hK => ?_)
        go_wp2_with fail
        refine CL.out.mono ?_; clear CL k0 k1 k2 k3 d0 d1 d2 d3 t0 t1 t2 t3
        rintro e w5 ⟨A5, c5, rfl, hrep, hbel⟩
        refine hK _ _ ⟨fun _ => hbel, ?_⟩
        clear hK K
        have hs5 := hbel.size
        have hb5 : Below wr.heap.size wr w5 := below_then HBX.out hbel HBX.out.size
        have hR5 := HR.out.below hb5
        obtain ⟨m0, m1, m2, m3, m4⟩ := hR5.slot hcl.symm i hic
        have hX5 : RepP w5 (fun b => (b < w.heap.size ∨ W2.heap.size ≤ b) ∧ b < w5.heap.size ∧ g ≠ b) (it.1.put s) A5 c5 := RepP.mono (fun b ⟨h1, h2⟩ => ⟨.inr (by omega), h2, by omega⟩) (fun _ _ => rfl) _ _ _ hrep
        have hset := hR5.set hcl.symm i (by omega) (it.1.put s, A5, c5) hX5
        have hX6 : RepP w5 (fun b => W2.heap.size ≤ b ∧ b < w5.heap.size ∧ g ≠ b) (it.1.put s) A5 c5 := RepP.mono (fun b ⟨h1, h2⟩ => ⟨by omega, h2, by omega⟩) (fun _ _ => rfl) _ _ _ hrep
        have hold : ∀ j, (h : j < cur.length) → j < i → RepP w5 (fun b => W2.heap.size ≤ b ∧ b < w5.heap.size ∧ g ≠ b) cur[j].1 cur[j].2.1 cur[j].2.2 := fun j h h' =>
          RepP.mono (fun b ⟨h1, h2, h3⟩ => ⟨h1, by have := hb5.size; omega, fun e => h3 (by rw [e]; rfl)⟩) (fun p ⟨_, h2, _⟩ => hb5.cell h2) _ _ _ (HF.out j h h')
        have hBW5 : Below w.heap.size w w5 := HBW.out.trans (hb5.mono (by omega))
        have hT5 := (hb5.block _ (by omega)).trans HT.out
        have hC5 := (hb5.block _ (by omega)).trans HC.out
        have HSE := Lib.hid hset; clear hset
        have HX6 := Lib.hid hX6; clear hX6 hX5
        have HO := Lib.hid hold; clear hold
        have HBW5 := Lib.hid hBW5; clear hBW5
        have HT5 := Lib.hid hT5; clear hT5
        have HC5 := Lib.hid hC5; clear hC5
        clear hrep hR5 hbel hb5 HBX
        generalize cur[i] = old at m0 m1 m2 m3
        refine mix_op rfl rfl (fun K hK => ?_)
        go_wp2_with fail
        refine mix_op rfl rfl (fun K hK => ?_)
        go_wp2_with fail
        refine ⟨fun h => absurd h (by decide), mix_nil ?_⟩
        go_wp2_with fail
        go_roundw
        case rel =>
          have hne : ∀ b, b < W2.heap.size → b ≠ g := fun b h => by omega
          refine ⟨i + 1, cur.set i (it.1.put s, A5, c5), by go_num, by omega, by rw [List.length_set]; exact hcl, HSE.out, ?_, ?_, ?_, ?_, ?_⟩
          · intro j h h'
            have h2 : j < cur.length := by simpa using h
            have e := HM.out j h2 h'
            rw [List.getElem_set]
            by_cases hij : i = j
            · subst hij
              rw [if_pos rfl, if_pos (Nat.lt_succ_self _)]
              show it.1.put s = l[i].put s
              rw [HCI.out]
            · rw [if_neg hij, e]
              by_cases hji : j < i
              · rw [if_pos hji, if_pos (by omega)]
              · rw [if_neg hji, if_neg (by omega)]
          · intro j h h'
            have h2 : j < cur.length := by simpa using h
            have hsz3 : ((((w5.setCell ⟨g, i * 4, none⟩ (.int .i64 (it.1.put s).kind)).setCell ⟨g, i * 4 + 1, none⟩ (.string (it.1.put s).name)).setCell ⟨g, i * 4 + 2, none⟩ (.int .i64 (it.1.put s).sort)).setCell ⟨g, i * 4 + 3, none⟩ (.slice A5 (it.1.put s).kids.length c5)).heap.size = w5.heap.size := by simp [World.setCell]
            rw [hsz3]
            have key : RepP w5 (fun b => W2.heap.size ≤ b ∧ b < w5.heap.size ∧ g ≠ b) (cur.set i (it.1.put s, A5, c5))[j].1 (cur.set i (it.1.put s, A5, c5))[j].2.1 (cur.set i (it.1.put s, A5, c5))[j].2.2 := by
              rw [List.getElem_set]
              split
              · exact HX6.out
              · exact HO.out j h2 (by omega)
            exact RepP.mono (fun b ⟨h1, h2, h3⟩ => ⟨h1, h2, fun e => h3 (by injection e)⟩) (fun _ _ => rfl) _ _ _ (RepP.set4 (fun k h => h.2.2) key)
          · iterate 4 refine Below.setCell ?_ (by show w.heap.size ≤ g; omega) _
            exact HBW5.out
          · iterate 4 rw [Below.heap_setCell _ _ _ _ (by show w.heap.size ≠ g; omega)]
            exact HT5.out
          · iterate 4 rw [Below.heap_setCell _ _ _ _ (by show w.heap.size + 1 ≠ g; omega)]
            exact HC5.out
        case measure => simp [intOf]; omega
      · obtain rfl : i = l.length := by omega
        obtain ⟨t0, t1, t2, t3, -⟩ := box_at HT.out
        obtain ⟨c0, c1, c2, c3', cf⟩ := box_at HC.out
        have hfin : RowT wr W2.heap.size (fun b => W2.heap.size ≤ b) (.slice A3 l.length c3) cur := ⟨HR.out.own, fun x hx => by
          obtain ⟨j, hj, rfl⟩ := List.getElem_of_mem hx
          exact RepP.mono (fun b ⟨h1, h2, h3⟩ => ⟨h1, h2, h3⟩) (fun _ _ => rfl) _ _ _ (HF.out j hj (by omega))⟩
        obtain ⟨A7, c7, he, hS⟩ := hfin.toS (P := fun b => W2.heap.size ≤ b ∧ b < wr.heap.size) (fun b h h' => ⟨h, h'⟩) (fun b h h' => ⟨h, h'⟩)
        injection he with he1 he2 he3
        subst he1 he3
        have hmap : cur.map (·.1) = Tm.puts s l := by
          rw [Tm.puts_eq]
          refine List.ext_getElem (by simp [hcl]) fun j h1 h2 => ?_
          have hj : j < cur.length := by simpa using h1
          have := HM.out j hj (by omega)
          rw [if_pos (by omega)] at this
          simp [this]
        have hpl := Tm.puts_length s l
        rw [hmap] at hS
        have HS := Lib.hid hS; clear hS he2 hfin hmap
        have HPL := Lib.hid hpl; clear hpl
        go_wp2_with fail
        refine bodyPost_ret (v := .agg #[.int .i64 tk, .string tn, .int .i64 ts, .slice A3 l.length c3]) ?_ rfl ?_
        · simp [results, Tryz.results142, go_sem, c0, c1, c2, c3']
        refine ⟨A3, c3, by simp [Tm.kind, Tm.name, Tm.sort, Tm.kids, HPL.out], ?_, ?_⟩
        · rw [RepP_mk]
          refine ⟨hr1, RepS.mono ?_ ?_ HS.out⟩
          · rintro b ⟨h1, h2⟩; exact ⟨by omega, by simp [World.setCell]; omega⟩
          · rintro q ⟨h1, h2⟩
            have hq : ∀ o, (⟨w.heap.size + 1, o, none⟩ : Addr) ≠ q := fun o e => by rw [← e] at h1; simp at h1; omega
            rw [World.cell?_setCell_other _ _ _ _ (hq _), World.cell?_setCell_other _ _ _ _ (hq _), World.cell?_setCell_other _ _ _ _ (hq _), World.cell?_setCell_other _ _ _ _ (hq _)]
        · iterate 4 refine Below.setCell ?_ (by show w.heap.size ≤ w.heap.size + 1; omega) _
          exact HBW.out
end Go.Proofs.YtipmibjhlpnhjaaGreatDoor
