/- slices.Clone of terms, and subst.clone. -/
import Derived.StillTailTactics
import Derived.Test.YtipmibjhlpnhjaaGreatDoorSvalid
namespace Go.Proofs.YtipmibjhlpnhjaaGreatDoor
open Go.RowKit Go.Sort

/-- A row that was made by the call, with what lies in an old slice behind nothing. -/
theorem row_copy {w : World} {base : Nat} {F : Nat → Prop} {v : Value} (hrow : RowT w base F v []) (hF : ∀ b, F b → b < base) (hbase : base ≤ w.heap.size) (a : Addr) (c m : Nat) (news : List It) (hm : m = news.length)
    (hc : ∀ j u, (itCells news)[j]? = some u → w.cell? (a.add j) = some u) (hN : ∀ x ∈ news, RepP w F x.1 x.2.1 x.2.2) (hlen : m ≤ 100000000) (hne : v ≠ .slice none 0 0) :
    ∃ g c' w', (∀ ty, (Builtin.append_ #[22, 22] ty #[v, .slice (some a) m c]).run Tryz.prog w = .ok (.slice (some ⟨g, 0, none⟩) m c') w') ∧
      RowT w' base F (.slice (some ⟨g, 0, none⟩) m c') news ∧ w.grownBy w' v.ownBlock := by
  subst hm
  obtain ⟨i0, hi0, hz0, hz1, hz2⟩ := info_parts termInfo
  obtain ⟨v', w', hr, ho, hg, hnil⟩ := run_append_own (P := Tryz.prog) w base 22 0 24 i0 _ 4 56 Tryz.underlying22 hi0 hz0 hz1 hz2 rfl (by omega) v 0 [] hrow.own a news.length c (itCells news)
    (itCells_length news) hc (itCells_one news) (by unfold maxLen; omega) (by omega) hbase
  rw [Nat.zero_add, List.nil_append] at ho
  have hrow' : RowT w' base F v' news := by
    refine ⟨ho, fun x hx => ?_⟩
    refine RepP.mono ?_ ?_ _ _ _ (hN x hx)
    · intro k h1
      have hk := hF k h1
      refine ⟨h1, by have := hg.size; omega, fun e => ?_⟩
      have := (ho.lt k e).1; omega
    · intro p h1
      have hk := hF p.block h1
      exact World.cell?_of_block (hg.block p.block (by omega) (fun e => by have := (hrow.own.lt _ e.symm).1; omega))
  rcases ho.2 with ⟨rfl, h0⟩ | ⟨g, c', cur, rfl, _⟩
  · exact absurd (hnil.1 rfl).1 hne
  · exact ⟨g, c', w', fun ty => hr, hrow', hg⟩

/-- what slices.Clone gives: the terms, in a row of its own -/
def CloneOf (P : Nat → Prop) (l : List Tm) (w : World) (e : Ending) (w' : World) : Prop :=
  Below w.heap.size w w' ∧ ∃ (A : Option Addr) (c : Nat) (its : List It), e = .returned (.slice A l.length c) ∧ its.map (·.1) = l ∧ RowT w' w.heap.size P (.slice A l.length c) its

set_option maxHeartbeats 2000000 in
set_option maxRecDepth 100000 in
theorem tclone_any (P : Nat → Prop) (l : List Tm) (A : Option Addr) (cap : Nat) (w : World) (hP : ∀ b, P b → b < w.heap.size) (hlen : l.length ≤ 1000000) (hrep : RepS w P l A cap) :
    Calls Tryz.prog 143 #[.slice A l.length cap] w (CloneOf P l w) := by
  cases A with
  | none =>
    obtain rfl : l = [] := by
      rcases hrep.2.2 with h | ⟨b, off, h, _⟩
      · exact h
      · cases h
    have q22 : ∀ (w : World) (n c n' c' : Nat), (binOp .eql 22 (.slice none n c) (.slice none n' c')).run Tryz.prog w = .ok (.bool true) w := fun w n c n' c' => Lib.run_eql_slice_nil w _ _ none n c n' c' Tryz.underlying22
    go_enter Tryz.func143, Tryz.ntmps143
    go_wp2_with fail
    go_ret
    exact ⟨Below.refl _ _, none, 0, [], rfl, rfl, RowT.nil _ _ _⟩
  | some a =>
    have q22 : ∀ (w : World) (n c n' c' : Nat), (binOp .eql 22 (.slice (some a) n c) (.slice none n' c')).run Tryz.prog w = .ok (.bool false) w := fun w n c n' c' => Lib.run_eql_slice_nil w _ _ (some a) n c n' c' Tryz.underlying22
    obtain ⟨V, hV⟩ : ∃ V, V = w.alloc (.cells #[] 24) := ⟨_, rfl⟩
    have hbV : Below w.heap.size w V := by rw [hV]; exact below1 (Nat.le_refl _) _
    have hrow : RowT V w.heap.size P (.slice (some ⟨w.heap.size, 0, none⟩) 0 0) [] := by
      rw [hV]; exact ⟨World.ownsRow_made w #[] 0 (Nat.le_refl _) (by unfold maxLen; omega) rfl, by simp⟩
    obtain ⟨its, hits, hc, hN⟩ : ∃ its : List It, its.map (·.1) = l ∧ (∀ j u, (itCells its)[j]? = some u → V.cell? (a.add j) = some u) ∧ (∀ x ∈ its, RepP V P x.1 x.2.1 x.2.2) := by
      rcases hrep.2.2 with rfl | ⟨b, off, h, hbb, hl⟩
      · exact ⟨[], rfl, by simp [itCells], by simp⟩
      · injection h with h; subst h
        obtain ⟨its, h1, h2, h3⟩ := RepLP.its l b off (RepLP.mono (w' := V) (fun _ h => h) (fun p hp => hbV.cell (hP _ hp)) _ _ _ hbb hl)
        refine ⟨its, h1, fun j u hj => ?_, h3⟩
        have := h2 j u hj
        unfold Addr.add; split
        · rename_i h; rw [h, Nat.add_zero] at this; exact this
        · exact this
    have hil : its.length = l.length := by rw [← hits]; simp
    obtain ⟨g, c', w', hr, hrow', hg⟩ := row_copy hrow hP hbV.size a cap l.length its hil.symm hc hN (by omega) (by simp)
    have hV2 := hV
    have HV := Lib.hid hV; clear hV
    have HROW := Lib.hid hrow'; clear hrow'
    have hB : Below w.heap.size w w' := ⟨hg.os.trans hbV.os, hg.tape.trans hbV.tape, hg.output.trans hbV.output, Nat.le_trans hbV.size hg.size, fun b hb => (hg.block b (by have := hbV.size; omega) (fun e => by have e' := Option.some.inj e; simp only at e'; omega)).trans (hbV.block b hb)⟩
    have HB := Lib.hid hB; clear hB hg hrow hc hN hrep
    rw [HV.out] at hr
    clear hV2 hbV
    go_enter Tryz.func143, Tryz.ntmps143
    go_wp2_with (at_builtin; refine wpList_run_append rfl _ _ rfl rfl rfl hr ?_)
    go_ret
    exact ⟨HB.out, _, _, its, rfl, hits, HROW.out⟩

set_option maxHeartbeats 4000000 in
set_option maxRecDepth 100000 in
theorem sclone_any (n : Nat) : ∀ (t : Tm) (A : Option Addr) (cap : Nat) (w : World), t.size ≤ n → n ≤ 1000000 → RepT w w.heap.size t A cap →
    Calls Tryz.prog 107 #[t.val A cap] w (Fresh t w) := by
  have mixed : Tryz.prog.follows .mixedOrders = true := by kernel_rfl
  induction n with
  | zero => intro t _ _ _ h; have := t.size_pos; omega
  | succ n ih =>
    intro t A cap w hn hb hrep
    obtain ⟨tk, tn, ts, l⟩ := t
    rw [Tm.size] at hn
    rw [RepT_mk] at hrep
    obtain ⟨hr1, hr2⟩ := hrep
    have hls := Tm.length_le_sizes l
    obtain ⟨W1, hW1⟩ : ∃ W1, W1 = w.alloc (.cells #[.int .i64 tk, .string tn, .int .i64 ts, .slice A l.length cap] 24) := ⟨_, rfl⟩
    obtain ⟨W2, hW2⟩ : ∃ W2, W2 = W1.alloc (.cells #[.int .i64 0, .string ⟨#[]⟩, .int .i64 0, .slice none 0 0] 24) := ⟨_, rfl⟩
    have s1 : W1.heap.size = w.heap.size + 1 := by rw [hW1]; simp
    have s2 : W2.heap.size = w.heap.size + 1 + 1 := by rw [hW2]; simp [s1]
    have b1 : Below w.heap.size w W1 := by rw [hW1]; exact below1 (Nat.le_refl _) _
    have b2 : Below W1.heap.size W1 W2 := by rw [hW2]; exact below1 (Nat.le_refl _) _
    have hB : Below w.heap.size w W2 := b1.trans (b2.mono (by omega))
    have hx1 : W2.heap[w.heap.size]? = some (.cells #[.int .i64 tk, .string tn, .int .i64 ts, .slice A l.length cap] 24 (0, 0)) := by rw [b2.block _ (by omega), hW1]; exact heap_alloc_new _ _
    have hx2 : W2.heap[w.heap.size + 1]? = some (.cells #[.int .i64 0, .string ⟨#[]⟩, .int .i64 0, .slice none 0 0] 24 (0, 0)) := by rw [hW2, ← s1]; exact heap_alloc_new _ _
    have TC := Lib.hid (tclone_any (fun b => b < w.heap.size) l A cap W2 (fun b h => by omega) (by omega) (RepS.mono (fun _ h => h) (fun p hp => hB.cell hp) hr2))
    have HW : Hid (W2 = (w.alloc (.cells #[.int .i64 tk, .string tn, .int .i64 ts, .slice A l.length cap] 24)).alloc (.cells #[.int .i64 0, .string ⟨#[]⟩, .int .i64 0, .slice none 0 0] 24)) := by rw [hW2, hW1]; exact rfl
    obtain ⟨r0, r1, r2, r3, -⟩ := box_at hx1
    have HX1 := Lib.hid hx1; clear hx1
    have HX2 := Lib.hid hx2; clear hx2
    have HB := Lib.hid hB; clear hB b1 b2 hW1 hW2 s1
    have IH := Lib.hid ih; clear ih
    simp only [Tm.val, Tm.kind, Tm.name, Tm.sort, Tm.kids]
    go_enter Tryz.func107, Tryz.ntmps107
    go_wp2_with fail
    rw [← HW.out]
    go_wp2_with fail
    refine TC.out.mono ?_; clear TC r0 r1 r2 r3 HW
    rintro e w3 ⟨hb3, A3, c3, its, rfl, hits, hrow⟩
    have hs3 := hb3.size
    have hy1 := (hb3.block w.heap.size (by omega)).trans HX1.out
    have hy2 := (hb3.block (w.heap.size + 1) (by omega)).trans HX2.out
    obtain ⟨r0, r1, r2, r3, rf⟩ := box_at hy1
    have hil : its.length = l.length := by rw [← hits]; simp
    obtain ⟨W4, hW4⟩ : ∃ W4, W4 = w3.setCell ⟨w.heap.size, 3, none⟩ (.slice A3 l.length c3) := ⟨_, rfl⟩
    have hz1 : W4.heap[w.heap.size]? = some (.cells #[.int .i64 tk, .string tn, .int .i64 ts, .slice A3 l.length c3] 24 (0, 0)) := by rw [hW4]; exact heap_set3 hy1
    have hz2 : W4.heap[w.heap.size + 1]? = some (.cells #[.int .i64 0, .string ⟨#[]⟩, .int .i64 0, .slice none 0 0] 24 (0, 0)) := by rw [hW4]; exact (Below.heap_setCell _ _ _ _ (by show w.heap.size + 1 ≠ w.heap.size; omega)).trans hy2
    have hrow4 : RowT W4 W2.heap.size (fun b => b < w.heap.size ∨ W2.heap.size ≤ b) (.slice A3 l.length c3) its := by
      rw [hW4]
      have h0 := hrow.setCell (p := ⟨w.heap.size, 3, none⟩) (by show ¬ (w.heap.size < w.heap.size); omega) (by show w.heap.size < W2.heap.size; omega) (.slice A3 l.length c3)
      exact ⟨h0.own, fun x hx => RepP.mono (fun b ⟨h1, h2⟩ => ⟨.inl h1, h2⟩) (fun _ _ => rfl) _ _ _ (h0.reps x hx)⟩
    have hB4 : Below w.heap.size w W4 := by rw [hW4]; exact (HB.out.trans (hb3.mono (by omega))).setCell (p := ⟨w.heap.size, 3, none⟩) (Nat.le_refl _) _
    have hs4 : W2.heap.size ≤ W4.heap.size := by rw [hW4]; simpa [World.setCell] using hs3
    have HW4 := Lib.hid hW4; clear hW4
    have HITS := Lib.hid hits
    have hsz : ∀ x ∈ its, x.1.size ≤ n := fun x hx => by
      have : x.1 ∈ l := by rw [← hits]; exact List.mem_map_of_mem hx
      obtain ⟨j, hj, e⟩ := List.getElem_of_mem this
      have := Tm.sizes_get l j hj
      rw [e] at this; omega
    have HSZ := Lib.hid hsz; clear hsz hits
    have HZ1 := Lib.hid hz1; clear hz1
    have HZ2 := Lib.hid hz2; clear hz2
    have HROW := Lib.hid hrow4; clear hrow4 hrow
    have HB4 := Lib.hid hB4; clear hB4 hb3 hy1 hy2 HB HX1 HX2
    go_wp2_with fail
    rw [← HW4.out]
    clear r0 r1 r2 r3 rf
    obtain ⟨r0, r1, r2, r3, rf⟩ := box_at HZ1.out
    go_wp2_with fail
    clear r0 r1 r2 r3 rf
    go_loopw [12] (fun a wr => ∃ (i : Nat) (cur : List It), a = .int .i64 i ∧ i ≤ l.length ∧ cur.length = l.length ∧ Hid (RowT wr W2.heap.size (fun b => b < w.heap.size ∨ W2.heap.size ≤ b) (.slice A3 l.length c3) cur) ∧
        Hid (cur.map (·.1) = l) ∧ Hid (∀ j, (h : j < cur.length) → j < i → RepP wr (fun b => W2.heap.size ≤ b ∧ b < wr.heap.size ∧ (Value.slice A3 l.length c3).ownBlock ≠ some b) cur[j].1 cur[j].2.1 cur[j].2.2) ∧ Hid (Below w.heap.size w wr) ∧
        Hid (wr.heap[w.heap.size]? = some (.cells #[.int .i64 tk, .string tn, .int .i64 ts, .slice A3 l.length c3] 24 (0, 0))) ∧ Hid (wr.heap[w.heap.size + 1]? = some (.cells #[.int .i64 0, .string ⟨#[]⟩, .int .i64 0, .slice none 0 0] 24 (0, 0))))
      (fun a _ => l.length - (intOf a).toNat)
    case atStart => exact ⟨0, its, rfl, Nat.zero_le _, hil, HROW.out, HITS.out, fun j _ h => absurd h (Nat.not_lt_zero j), HB4.out, HZ1.out, HZ2.out⟩
    case round =>
      obtain ⟨i, cur, rfl, hi, hcl, HR, HM, HF, HBW, HT, HC⟩ := hrel
      have hsw := (Array.getElem?_eq_some_iff.1 HC.out).1
      by_cases hlt : i < l.length
      · have hic : i < cur.length := by omega
        obtain ⟨g, rfl⟩ : ∃ g, A3 = some ⟨g, 0, none⟩ := by
          rcases HR.out.own.2 with ⟨_, h0⟩ | ⟨g, _, _, hv, _⟩
          · omega
          · injection hv with h1 _ _; exact ⟨g, h1⟩
        obtain ⟨k0, k1, k2, k3, _⟩ := HR.out.slot hcl.symm i hic
        have hgl := HR.out.lt g rfl
        have hsi : cur[i].1.size ≤ n := by
          have h1 := congrArg (·[i]?) HM.out
          simp only [List.getElem?_map, List.getElem?_eq_getElem hic, List.getElem?_eq_getElem hlt, Option.map_some, Option.some.injEq] at h1
          rw [h1]; have := Tm.sizes_get l i hlt; omega
        obtain ⟨it, hit⟩ : ∃ it, it = cur[i] := ⟨_, rfl⟩
        have hri := HR.out.reps cur[i] (List.getElem_mem _)
        rw [← hit] at k0 k1 k2 k3 hsi hri
        obtain ⟨X, hX⟩ : ∃ X, X = wr.alloc (.cells #[.int .i64 it.1.kind, .string it.1.name, .int .i64 it.1.sort, .slice it.2.1 it.1.kids.length it.2.2] 24) := ⟨_, rfl⟩
        have hbX : Below wr.heap.size wr X := by rw [hX]; exact below1 (Nat.le_refl _) _
        have hsX : X.heap.size = wr.heap.size + 1 := by rw [hX]; simp
        have hxb : X.heap[wr.heap.size]? = some (.cells #[.int .i64 it.1.kind, .string it.1.name, .int .i64 it.1.sort, .slice it.2.1 it.1.kids.length it.2.2] 24 (0, 0)) := by rw [hX]; exact heap_alloc_new _ _
        have hxt := (hbX.block _ (by omega)).trans HT.out
        have CL : Hid (Calls Tryz.prog 107 #[it.1.val it.2.1 it.2.2] X.drew (Fresh it.1 X.drew)) := IH.out it.1 it.2.1 it.2.2 X.drew hsi (by omega) (RepP.mono (fun b ⟨_, h2, _⟩ => by show b < X.heap.size; omega) (fun p ⟨_, h2, _⟩ => hbX.cell h2) _ _ _ hri)
        have HIT := Lib.hid hit; clear hit hri
        have i1 : (0 : Int) ≤ (i : Int) := Int.natCast_nonneg _
        have i2 : (i : Int) < (l.length : Int) := by omega
        have HX := Lib.hid hX; clear hX
        obtain ⟨d0, d1, d2, d3, -⟩ := box_at (show X.drew.heap[wr.heap.size]? = _ from hxb)
        obtain ⟨t0, t1, t2, t3, -⟩ := box_at (show X.drew.heap[w.heap.size]? = _ from hxt)
        have hbXd : Below wr.heap.size wr X.drew := hbX.drew
        have hsXd : X.drew.heap.size = wr.heap.size + 1 := hsX
        have HBX := Lib.hid hbXd; clear hbXd hbX hxb hxt hsX
        simp only [Tm.val] at CL
        go_wp2_with fail
        rw [← HX.out]
        go_wp2_with fail
        refine wp_region_mix (fun Y => Below X.drew.heap.size X.drew Y) 5 (.held 0 (.held 1 (.held 2 (.held 3 (.op 4 (.op 5 (.op 6 .nil))))))) mixed (by kernel_rfl) ?_
        generalize X.drew = Z at *
        refine mix_take (v := .pointer (some ⟨w.heap.size, 3, none⟩)) rfl rfl (fun _ _ _ h => h) (Below.refl _ _) (fun Y hY => by (try simp only [Act.put]); go_simp) ?_
        refine mix_take (v := .slice (some ⟨g, 0, none⟩) l.length c3) rfl rfl (fun _ _ _ h => h) (Below.refl _ _) (fun Y hY => by
          have z3 := (hY.cell (p := ⟨w.heap.size, 3, none⟩) (by show w.heap.size < _; omega)).trans t3
          (try simp only [Act.put]); go_simp) ?_
        refine mix_take (v := .int .i64 i) rfl rfl (fun _ _ _ h => h) (Below.refl _ _) (fun Y hY => by (try simp only [Act.put]); go_simp) ?_
        refine mix_take (v := .agg #[.int .i64 it.1.kind, .string it.1.name, .int .i64 it.1.sort, .slice it.2.1 it.1.kids.length it.2.2]) rfl rfl (fun _ _ _ h => h) (Below.refl _ _) (fun Y hY => by
          have z0 := (hY.cell (p := ⟨wr.heap.size, 0, none⟩) (by show wr.heap.size < _; omega)).trans d0
          have z1 := (hY.cell (p := ⟨wr.heap.size, 1, none⟩) (by show wr.heap.size < _; omega)).trans d1
          have z2 := (hY.cell (p := ⟨wr.heap.size, 2, none⟩) (by show wr.heap.size < _; omega)).trans d2
          have z3 := (hY.cell (p := ⟨wr.heap.size, 3, none⟩) (by show wr.heap.size < _; omega)).trans d3
          (try simp only [Act.put]); go_simp) ?_
        simp only [Act.put, List.setIfInBounds_toArray]
        refine mix_op rfl rfl (fun K hK => ?_)
        go_wp2_with fail
        refine CL.out.mono ?_; clear CL k0 k1 k2 k3 d0 d1 d2 d3 t0 t1 t2 t3
        rintro e w5 ⟨A5, c5, rfl, hrep, hbel⟩
        refine hK _ _ ⟨fun _ => hbel, ?_⟩
        clear hK K
        have hs5 := hbel.size
        have hb5 : Below wr.heap.size wr w5 := below_then HBX.out hbel HBX.out.size
        have hR5 := HR.out.below hb5
        obtain ⟨m0, m1, m2, m3, m4⟩ := hR5.slot hcl.symm i hic
        have hX5 : RepP w5 (fun b => (b < w.heap.size ∨ W2.heap.size ≤ b) ∧ b < w5.heap.size ∧ g ≠ b) it.1 A5 c5 := RepP.mono (fun b ⟨h1, h2⟩ => ⟨.inr (by omega), h2, by omega⟩) (fun _ _ => rfl) _ _ _ hrep
        have hset := hR5.set hcl.symm i (by omega) (it.1, A5, c5) hX5
        have hX6 : RepP w5 (fun b => W2.heap.size ≤ b ∧ b < w5.heap.size ∧ g ≠ b) it.1 A5 c5 := RepP.mono (fun b ⟨h1, h2⟩ => ⟨by omega, h2, by omega⟩) (fun _ _ => rfl) _ _ _ hrep
        have hold : ∀ j, (h : j < cur.length) → j < i → RepP w5 (fun b => W2.heap.size ≤ b ∧ b < w5.heap.size ∧ g ≠ b) cur[j].1 cur[j].2.1 cur[j].2.2 := fun j h h' =>
          RepP.mono (fun b ⟨h1, h2, h3⟩ => ⟨h1, by have := hb5.size; omega, fun e => h3 (by rw [e]; rfl)⟩) (fun p ⟨_, h2, _⟩ => hb5.cell h2) _ _ _ (HF.out j h h')
        have hBW5 : Below w.heap.size w w5 := HBW.out.trans (hb5.mono (by omega))
        have hT5 := (hb5.block _ (by omega)).trans HT.out
        have hC5 := (hb5.block _ (by omega)).trans HC.out
        have HSE := Lib.hid hset; clear hset
        have HX6 := Lib.hid hX6; clear hX6 hX5
        have HO := Lib.hid hold; clear hold
        have HBW5 := Lib.hid hBW5; clear hBW5
        have HT5 := Lib.hid hT5; clear hT5
        have HC5 := Lib.hid hC5; clear hC5
        clear hrep hR5 hbel hb5 HBX
        generalize cur[i] = old at m0 m1 m2 m3
        refine mix_op rfl rfl (fun K hK => ?_)
        go_wp2_with fail
        refine mix_op rfl rfl (fun K hK => ?_)
        go_wp2_with fail
        refine ⟨fun h => absurd h (by decide), mix_nil ?_⟩
        go_wp2_with fail
        go_roundw
        case rel =>
          have hne : ∀ b, b < W2.heap.size → b ≠ g := fun b h => by omega
          refine ⟨i + 1, cur.set i (it.1, A5, c5), by go_num, by omega, by rw [List.length_set]; exact hcl, HSE.out, ?_, ?_, ?_, ?_, ?_⟩
          · show (cur.set i (it.1, A5, c5)).map (·.1) = _
            rw [List.map_set, ← HM.out, HIT.out]
            refine List.ext_getElem (by simp) fun j h1 h2 => ?_
            rw [List.getElem_set]
            split
            · subst_vars; simp
            · rfl
          · intro j h h'
            have h2 : j < cur.length := by simpa using h
            have hsz3 : ((((w5.setCell ⟨g, i * 4, none⟩ (.int .i64 it.1.kind)).setCell ⟨g, i * 4 + 1, none⟩ (.string it.1.name)).setCell ⟨g, i * 4 + 2, none⟩ (.int .i64 it.1.sort)).setCell ⟨g, i * 4 + 3, none⟩ (.slice A5 it.1.kids.length c5)).heap.size = w5.heap.size := by simp [World.setCell]
            rw [hsz3]
            have key : RepP w5 (fun b => W2.heap.size ≤ b ∧ b < w5.heap.size ∧ g ≠ b) (cur.set i (it.1, A5, c5))[j].1 (cur.set i (it.1, A5, c5))[j].2.1 (cur.set i (it.1, A5, c5))[j].2.2 := by
              rw [List.getElem_set]
              split
              · exact HX6.out
              · exact HO.out j h2 (by omega)
            exact RepP.mono (fun b ⟨h1, h2, h3⟩ => ⟨h1, h2, fun e => h3 (by injection e)⟩) (fun _ _ => rfl) _ _ _ (RepP.set4 (fun k h => h.2.2) key)
          · iterate 4 refine Below.setCell ?_ (by show w.heap.size ≤ g; omega) _
            exact HBW5.out
          · iterate 4 rw [Below.heap_setCell _ _ _ _ (by show w.heap.size ≠ g; omega)]
            exact HT5.out
          · iterate 4 rw [Below.heap_setCell _ _ _ _ (by show w.heap.size + 1 ≠ g; omega)]
            exact HC5.out
        case measure => simp [intOf]; omega
      · obtain rfl : i = l.length := by omega
        obtain ⟨t0, t1, t2, t3, -⟩ := box_at HT.out
        obtain ⟨c0, c1, c2, c3', cf⟩ := box_at HC.out
        have hfin : RowT wr W2.heap.size (fun b => W2.heap.size ≤ b) (.slice A3 l.length c3) cur := ⟨HR.out.own, fun x hx => by
          obtain ⟨j, hj, rfl⟩ := List.getElem_of_mem hx
          exact RepP.mono (fun b ⟨h1, h2, h3⟩ => ⟨h1, h2, h3⟩) (fun _ _ => rfl) _ _ _ (HF.out j hj (by omega))⟩
        obtain ⟨A7, c7, he, hS⟩ := hfin.toS (P := fun b => W2.heap.size ≤ b ∧ b < wr.heap.size) (fun b h h' => ⟨h, h'⟩) (fun b h h' => ⟨h, h'⟩)
        injection he with he1 he2 he3
        subst he1 he3
        rw [HM.out] at hS
        have HS := Lib.hid hS; clear hS he2 hfin
        go_wp2_with fail
        refine bodyPost_ret (v := .agg #[.int .i64 tk, .string tn, .int .i64 ts, .slice A3 l.length c3]) ?_ rfl ?_
        · simp [results, Tryz.results107, go_sem, c0, c1, c2, c3']
        refine ⟨A3, c3, rfl, ?_, ?_⟩
        · rw [RepP_mk]
          refine ⟨hr1, RepS.mono ?_ ?_ HS.out⟩
          · rintro b ⟨h1, h2⟩; exact ⟨by omega, by simp [World.setCell]; omega⟩
          · rintro q ⟨h1, h2⟩
            have hq : ∀ o, (⟨w.heap.size + 1, o, none⟩ : Addr) ≠ q := fun o e => by rw [← e] at h1; simp at h1; omega
            rw [World.cell?_setCell_other _ _ _ _ (hq _), World.cell?_setCell_other _ _ _ _ (hq _), World.cell?_setCell_other _ _ _ _ (hq _), World.cell?_setCell_other _ _ _ _ (hq _)]
        · iterate 4 refine Below.setCell ?_ (by show w.heap.size ≤ w.heap.size + 1; omega) _
          exact HBW.out
end Go.Proofs.YtipmibjhlpnhjaaGreatDoor
