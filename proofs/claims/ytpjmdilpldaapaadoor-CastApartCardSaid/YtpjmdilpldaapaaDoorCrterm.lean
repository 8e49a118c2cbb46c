/- The reference's terms of agents and keys. -/
import Derived.Test.YtpjmdilpldaapaaDoorCterm
import Derived.Test.YtpjmdilpldaapaaDoorGh
namespace Go.Proofs.YtpjmdilpldaapaaDoor
open Go.RowKit Go.Sort

set_option maxHeartbeats 1000000 in
theorem rapp_any (x : ByteArray) (l : List Tm) (A : Option Addr) (c : Nat) (w : World) (P : Nat → Prop) (hP : ∀ b, P b → b < w.heap.size) (hx : x.size ≤ maxLen) (hl : l ≠ []) (hl2 : l.length ≤ 1000000) (hrep : RepS w P l A c) :
    Calls Tryd.prog 39 #[.string x, .slice A l.length c] w fun e w' => ∃ A' c', e = .returned ((Tm.mk 3 x 0 l).val A' c') ∧ RepP w' (fun b => P b ∨ w.heap.size ≤ b ∧ b < w'.heap.size) (.mk 3 x 0 l) A' c' ∧ Below w.heap.size w w' := by
  obtain ⟨h1, h2, h3⟩ := hrep
  rcases h3 with h3 | ⟨b, off, rfl, hb, hL⟩
  · exact absurd h3 hl
  obtain ⟨its, hm, hc, hr⟩ := RepLP.its l b off hL
  have hb1 : Below w.heap.size w ((w.alloc (.cells #[.int .i64 0, .string ⟨#[]⟩, .int .i64 0, .slice none 0 0] 35)).alloc (.cells #[] 35)) := (below1 (Nat.le_refl _) _).alloc (by simp) _
  have hr0 : RowT ((w.alloc (.cells #[.int .i64 0, .string ⟨#[]⟩, .int .i64 0, .slice none 0 0] 35)).alloc (.cells #[] 35)) (w.heap.size + 1) P (.slice (some ⟨w.heap.size + 1, 0, none⟩) 0 0) [] := by
    refine ⟨?_, by simp⟩
    have h := World.ownsRow_made (base := w.heap.size + 1) (e := 35) (size := 4) (w.alloc (.cells #[.int .i64 0, .string ⟨#[]⟩, .int .i64 0, .slice none 0 0] 35)) #[] 0 (by simp) (by simp [maxLen]) rfl
    rw [World.size_alloc] at h
    exact h
  have hlen : l.length = its.length := by rw [← hm, List.length_map]
  obtain ⟨A', c', w', hap, hrow, hg, hsome⟩ := hr0.more (fun b h => by have := hP b h; omega) (by simp) b off c l.length its hlen (fun j u hj => by rw [hb1.cell (hP _ hb)]; exact hc j u hj) (fun y hy => RepP.mono (fun _ h => h) (fun q hq => hb1.cell (hP _ hq)) _ _ _ (hr y hy)) (by simp; omega)
  simp only [List.length_nil, Nat.zero_add, List.nil_append] at hap hrow
  have HM := Lib.hid hm; clear hm
  have HLEN := Lib.hid hlen; clear hlen
  have HROW := Lib.hid hrow; clear hrow
  have hbx : w'.heap[w.heap.size]? = some (.cells #[.int .i64 0, .string ⟨#[]⟩, .int .i64 0, .slice none 0 0] 35 (0, 0)) := by
    rw [hg.block _ (by simp; omega) (by simp [Value.ownBlock]), Below.heap_alloc _ _ _ (by simp)]; exact heap_alloc_new _ _
  obtain ⟨r0, r1, r2, r3, rf⟩ := box_at hbx
  have hbw : Below w.heap.size w w' := below_of_grown hb1 (by simp; omega) hg (fun k hk => by simp [Value.ownBlock] at hk; omega)
  have HBW := Lib.hid hbw; clear hbw hbx hg
  clear hr0 hc hr hsome hL
  simp only [Tm.val, Tm.kind, Tm.name, Tm.sort, Tm.kids]
  go_enter Tryd.func39, Tryd.ntmps39
  go_wp2_with (at_builtin; refine wpList_run_append rfl _ _ rfl rfl rfl hap ?_)
  refine bodyPost_ret (v := .agg #[.int .i64 3, .string x, .int .i64 0, .slice A' l.length c']) ?_ rfl ?_
  · simp [results, Tryd.results39, go_sem, r0, r1, r2, r3]
  refine ⟨A', c', rfl, ?_, ?_⟩
  · obtain ⟨A1, c1, he, hS⟩ := HROW.out.toS (P := fun b => (P b ∨ w.heap.size ≤ b ∧ b < w'.heap.size) ∧ b ≠ w.heap.size) (fun b h h' => ⟨.inl h, by have := hP b h; omega⟩) (fun b h h' => ⟨.inr ⟨by omega, h'⟩, by omega⟩)
    injection he with he1 _ he3
    subst he1 he3
    rw [HM.out] at hS
    rw [RepP_mk]
    refine ⟨hx, RepS.mono ?_ ?_ hS⟩
    · rintro b ⟨h1, _⟩; rw [size_put]; exact h1
    · rintro q ⟨_, h2⟩
      have hne : ∀ o, (⟨w.heap.size, o, none⟩ : Addr) ≠ q := fun o e => h2 (by rw [← e])
      rw [World.cell?_setCell_other _ _ _ _ (hne _), World.cell?_setCell_other _ _ _ _ (hne _), World.cell?_setCell_other _ _ _ _ (hne _), World.cell?_setCell_other _ _ _ _ (hne _)]
  · iterate 4 refine Below.setCell ?_ (by exact Nat.le_refl _) _
    exact HBW.out

theorem ragent_any (x : ByteArray) (w : World) :
    Calls Tryd.prog 41 #[.string x] w fun e w' => e = .returned (.agg #[.int .i64 2, .string x, .int .i64 1, .slice none 0 0]) ∧ Lay w.heap.size w w' := by
  go_enter Tryd.func41, Tryd.ntmps41
  go_wp2_with fail
  obtain ⟨W0, hW0⟩ : ∃ W0, W0 = w.alloc (.cells #[.int .i64 0, .string ⟨#[]⟩, .int .i64 0, .slice none 0 0] 35) := ⟨_, rfl⟩
  rw [← hW0]
  have hb0 : Lay w.heap.size w W0 := by rw [hW0]; exact (Lay.refl _ _).alloc (Nat.le_refl _) _
  have hx0 : W0.heap[w.heap.size]? = some (.cells #[.int .i64 0, .string ⟨#[]⟩, .int .i64 0, .slice none 0 0] 35 (0, 0)) := by rw [hW0]; exact heap_alloc_new _ _
  have hs0 : w.heap.size < W0.heap.size := by rw [hW0]; simp
  have HB0 := Lib.hid hb0; have HX0 := Lib.hid hx0; have HS0 := Lib.hid hs0
  clear hb0 hx0 hs0 hW0
  refine (atom_any x 1 W0).mono ?_
  rintro e w1 ⟨rfl, hl1⟩
  have hx3 : w1.heap[w.heap.size]? = some (.cells #[.int .i64 0, .string ⟨#[]⟩, .int .i64 0, .slice none 0 0] 35 (0, 0)) := by
    rw [hl1.below.block _ HS0.out]; exact HX0.out
  have HL := Lib.hid (HB0.out.trans (hl1.mono (Nat.le_of_lt HS0.out)))
  obtain ⟨r0, r1, r2, r3, rf⟩ := box_at hx3
  clear hl1 hx3
  simp only [Tm.val, Tm.kind, Tm.name, Tm.sort, Tm.kids]
  go_wp2_with fail
  refine bodyPost_ret (v := .agg #[.int .i64 2, .string x, .int .i64 1, .slice none 0 0]) ?_ rfl ?_
  · simp [results, Tryd.results41, go_sem, r0, r1, r2, r3]
  exact ⟨rfl, lay_put _ _ _ _ HL.out (Nat.le_refl _)⟩

set_option maxHeartbeats 1000000 in
theorem rprivate_any (a : ByteArray) (ha : a.size ≤ maxLen) (w : World) : Calls Tryd.prog 37 #[.string a] w (NewT w (skT a)) := by
  go_enter Tryd.func37, Tryd.ntmps37
  go_wp2_with fail
  obtain ⟨W0, hW0⟩ : ∃ W0, W0 = w.alloc (.cells #[.int .i64 0, .string ⟨#[]⟩, .int .i64 0, .slice none 0 0] 35) := ⟨_, rfl⟩
  rw [← hW0]
  have hb0 : Lay w.heap.size w W0 := by rw [hW0]; exact (Lay.refl _ _).alloc (Nat.le_refl _) _
  have hx0 : W0.heap[w.heap.size]? = some (.cells #[.int .i64 0, .string ⟨#[]⟩, .int .i64 0, .slice none 0 0] 35 (0, 0)) := by rw [hW0]; exact heap_alloc_new _ _
  have hs0 : w.heap.size < W0.heap.size := by rw [hW0]; simp
  have HB0 := Lib.hid hb0; have HX0 := Lib.hid hx0; have HS0 := Lib.hid hs0
  clear hb0 hx0 hs0 hW0
  refine (ragent_any a W0).mono ?_
  rintro e w1 ⟨rfl, hl1⟩
  have HL1 := Lib.hid hl1; clear hl1
  go_wp2_with fail
  obtain ⟨W2, hW2⟩ : ∃ W2, W2 = w1.alloc (.cells #[.int .i64 2, .string a, .int .i64 1, .slice none 0 0] 35) := ⟨_, rfl⟩
  rw [← hW2]
  have hl2 : Lay W0.heap.size W0 W2 := by rw [hW2]; exact HL1.out.alloc HL1.out.size _
  have hx2 : W2.heap[w1.heap.size]? = some (.cells #[.int .i64 2, .string a, .int .i64 1, .slice none 0 0] 35 (0, 0)) := by rw [hW2]; exact heap_alloc_new _ _
  have hs2 : w1.heap.size < W2.heap.size := by rw [hW2]; simp
  have HL2 := Lib.hid hl2; have HX2 := Lib.hid hx2; have HS2 := Lib.hid hs2
  clear hl2 hx2 hs2 hW2
  have hrs : RepS W2 (fun b => w.heap.size < b ∧ b < W2.heap.size) [agT a] (some ⟨w1.heap.size, 0, none⟩) 1 := by
    refine ⟨Nat.le_refl _, by decide, .inr ⟨w1.heap.size, 0, rfl, ⟨by have := HS0.out; have := HL1.out.size; omega, HS2.out⟩, ?_⟩⟩
    exact one_kid (l := []) HX2.out (rep_ag ha)
  refine (rapp_any _ [agT a] _ _ W2 _ (fun b h => h.2) (by decide) (by simp) (by simp) hrs).mono ?_
  rintro e w3 ⟨A3, c3, rfl, hr3, hb3⟩
  have hx3 : w3.heap[w.heap.size]? = some (.cells #[.int .i64 0, .string ⟨#[]⟩, .int .i64 0, .slice none 0 0] 35 (0, 0)) := by
    rw [hb3.block _ (by have := HS0.out; have := HL2.out.size; omega), HL2.out.below.block _ HS0.out]; exact HX0.out
  have hb : Below w.heap.size w w3 := HB0.out.below.trans ((HL2.out.below.trans (hb3.mono HL2.out.size)).mono (by have := HS0.out; omega))
  have hs3 := hb3.size
  have hr4 : RepP w3 (fun b => w.heap.size < b ∧ b < w3.heap.size) (skT a) A3 c3 := RepP.mono (fun b h => by
    rcases h with h | h
    · exact ⟨h.1, by omega⟩
    · exact ⟨by have := HS2.out; have := HS0.out; have := HL1.out.size; omega, h.2⟩) (fun _ _ => rfl) _ _ _ hr3
  obtain ⟨r0, r1, r2, r3, rf⟩ := box_at hx3
  have HB := Lib.hid hb; have HR4 := Lib.hid hr4
  clear hrs hr3 hb3 hx3 hb hs3 hr4
  simp only [Tm.val, Tm.kind, Tm.name, Tm.sort, Tm.kids, List.length_cons, List.length_nil, Nat.zero_add]
  go_wp2_with fail
  refine bodyPost_ret (v := (skT a).val A3 c3) ?_ rfl ?_
  · simp [results, Tryd.results37, go_sem, r0, r1, r2, r3, skT, Tm.val, Tm.kind, Tm.name, Tm.sort, Tm.kids]
  refine ⟨_, _, rfl, ?_, below_put _ _ _ _ HB.out (Nat.le_refl _)⟩
  rw [size_put]
  exact RepP.mono (fun b h => ⟨Nat.le_of_lt h.1, h.2⟩) (fun q hq => box_put _ _ _ _ (by have := hq.1; omega)) _ _ _ HR4.out

set_option maxHeartbeats 1000000 in
theorem rpublic_any (a : ByteArray) (ha : a.size ≤ maxLen) (w : World) : Calls Tryd.prog 89 #[.string a] w (NewT w (pkT a)) := by
  go_enter Tryd.func89, Tryd.ntmps89
  go_wp2_with fail
  obtain ⟨W0, hW0⟩ : ∃ W0, W0 = w.alloc (.cells #[.int .i64 0, .string ⟨#[]⟩, .int .i64 0, .slice none 0 0] 35) := ⟨_, rfl⟩
  rw [← hW0]
  have hb0 : Lay w.heap.size w W0 := by rw [hW0]; exact (Lay.refl _ _).alloc (Nat.le_refl _) _
  have hx0 : W0.heap[w.heap.size]? = some (.cells #[.int .i64 0, .string ⟨#[]⟩, .int .i64 0, .slice none 0 0] 35 (0, 0)) := by rw [hW0]; exact heap_alloc_new _ _
  have hs0 : w.heap.size < W0.heap.size := by rw [hW0]; simp
  have HB0 := Lib.hid hb0; have HX0 := Lib.hid hx0; have HS0 := Lib.hid hs0
  clear hb0 hx0 hs0 hW0
  refine (rprivate_any a ha W0).mono ?_
  rintro e w1 ⟨A1, c1, rfl, hr1, hl1⟩
  have HL1 := Lib.hid hl1; clear hl1
  have HR1 := Lib.hid hr1; clear hr1
  simp only [skT, Tm.val, Tm.kind, Tm.name, Tm.sort, Tm.kids]
  go_wp2_with fail
  obtain ⟨W2, hW2⟩ : ∃ W2, W2 = w1.alloc (.cells #[.int .i64 3, .string ⟨#[115, 107]⟩, .int .i64 0, .slice A1 [agT a].length c1] 35) := ⟨_, rfl⟩
  simp only [List.length_cons, List.length_nil, Nat.zero_add] at hW2 ⊢
  rw [← hW2]
  have hl2 : Below W0.heap.size W0 W2 := by rw [hW2]; exact HL1.out.alloc HL1.out.size _
  have hx2 : W2.heap[w1.heap.size]? = some (.cells #[.int .i64 3, .string ⟨#[115, 107]⟩, .int .i64 0, .slice A1 [agT a].length c1] 35 (0, 0)) := by rw [hW2]; exact heap_alloc_new _ _
  have hb2 : Below w1.heap.size w1 W2 := by rw [hW2]; exact below1 (Nat.le_refl _) _
  have hs2 : w1.heap.size < W2.heap.size := by rw [hW2]; simp
  have HL2 := Lib.hid hl2; have HX2 := Lib.hid hx2; have HS2 := Lib.hid hs2; have HB2 := Lib.hid hb2
  clear hl2 hx2 hs2 hW2 hb2
  have hrs : RepS W2 (fun b => w.heap.size < b ∧ b < W2.heap.size) [skT a] (some ⟨w1.heap.size, 0, none⟩) 1 := by
    refine ⟨Nat.le_refl _, by decide, .inr ⟨w1.heap.size, 0, rfl, ⟨by have := HS0.out; have := HL1.out.size; omega, HS2.out⟩, ?_⟩⟩
    exact one_kid (l := [agT a]) HX2.out (RepP.mono (fun b h => ⟨by have := HS0.out; omega, by have := HS2.out; omega⟩) (fun q h => HB2.out.cell h.2) _ _ _ HR1.out)
  refine (rapp_any _ [skT a] _ _ W2 _ (fun b h => h.2) (by decide) (by simp) (by simp) hrs).mono ?_
  rintro e w3 ⟨A3, c3, rfl, hr3, hb3⟩
  have hx3 : w3.heap[w.heap.size]? = some (.cells #[.int .i64 0, .string ⟨#[]⟩, .int .i64 0, .slice none 0 0] 35 (0, 0)) := by
    rw [hb3.block _ (by have := HS0.out; have := HL2.out.size; omega), HL2.out.block _ HS0.out]; exact HX0.out
  have hb : Below w.heap.size w w3 := HB0.out.below.trans ((HL2.out.trans (hb3.mono HL2.out.size)).mono (by have := HS0.out; omega))
  have hs3 := hb3.size
  have hr4 : RepP w3 (fun b => w.heap.size < b ∧ b < w3.heap.size) (pkT a) A3 c3 := RepP.mono (fun b h => by
    rcases h with h | h
    · exact ⟨h.1, by omega⟩
    · exact ⟨by have := HS2.out; have := HS0.out; have := HL1.out.size; omega, h.2⟩) (fun _ _ => rfl) _ _ _ hr3
  obtain ⟨r0, r1, r2, r3, rf⟩ := box_at hx3
  have HB := Lib.hid hb; have HR4 := Lib.hid hr4
  clear hrs hr3 hb3 hx3 hb hs3 hr4
  simp only [Tm.val, Tm.kind, Tm.name, Tm.sort, Tm.kids, List.length_cons, List.length_nil, Nat.zero_add]
  go_wp2_with fail
  refine bodyPost_ret (v := (pkT a).val A3 c3) ?_ rfl ?_
  · simp [results, Tryd.results89, go_sem, r0, r1, r2, r3, skT, pkT, Tm.val, Tm.kind, Tm.name, Tm.sort, Tm.kids]
  refine ⟨_, _, rfl, ?_, below_put _ _ _ _ HB.out (Nat.le_refl _)⟩
  rw [size_put]
  exact RepP.mono (fun b h => ⟨Nat.le_of_lt h.1, h.2⟩) (fun q hq => box_put _ _ _ _ (by have := hq.1; omega)) _ _ _ HR4.out

set_option maxHeartbeats 1000000 in
theorem rshared_any (a b : ByteArray) (ha : a.size ≤ maxLen) (hbs : b.size ≤ maxLen) (w : World) : Calls Tryd.prog 90 #[.string a, .string b] w (NewT w (shT a b)) := by
  go_enter Tryd.func90, Tryd.ntmps90
  go_wp2_with fail
  obtain ⟨W0, hW0⟩ : ∃ W0, W0 = w.alloc (.cells #[.int .i64 0, .string ⟨#[]⟩, .int .i64 0, .slice none 0 0] 35) := ⟨_, rfl⟩
  rw [← hW0]
  have hb0 : Lay w.heap.size w W0 := by rw [hW0]; exact (Lay.refl _ _).alloc (Nat.le_refl _) _
  have hx0 : W0.heap[w.heap.size]? = some (.cells #[.int .i64 0, .string ⟨#[]⟩, .int .i64 0, .slice none 0 0] 35 (0, 0)) := by rw [hW0]; exact heap_alloc_new _ _
  have hs0 : w.heap.size < W0.heap.size := by rw [hW0]; simp
  have HB0 := Lib.hid hb0; have HX0 := Lib.hid hx0; have HS0 := Lib.hid hs0
  clear hb0 hx0 hs0 hW0
  refine (ragent_any a W0).mono ?_
  rintro e w1 ⟨rfl, hl1⟩
  have HL1 := Lib.hid hl1; clear hl1
  go_wp2_with fail
  refine (ragent_any b w1).mono ?_
  rintro e w1' ⟨rfl, hl1'⟩
  have HL1 := Lib.hid (HL1.out.trans (hl1'.mono HL1.out.size)); clear hl1'
  go_wp2_with fail
  obtain ⟨W2, hW2⟩ : ∃ W2, W2 = w1'.alloc (.cells #[.int .i64 2, .string a, .int .i64 1, .slice none 0 0, .int .i64 2, .string b, .int .i64 1, .slice none 0 0] 35) := ⟨_, rfl⟩
  rw [← hW2]
  have hl2 : Lay W0.heap.size W0 W2 := by rw [hW2]; exact HL1.out.alloc HL1.out.size _
  have hx2 : W2.heap[w1'.heap.size]? = some (.cells #[.int .i64 2, .string a, .int .i64 1, .slice none 0 0, .int .i64 2, .string b, .int .i64 1, .slice none 0 0] 35 (0, 0)) := by rw [hW2]; exact heap_alloc_new _ _
  have hs2 : w1'.heap.size < W2.heap.size := by rw [hW2]; simp
  have HL2 := Lib.hid hl2; have HX2 := Lib.hid hx2; have HS2 := Lib.hid hs2
  clear hl2 hx2 hs2 hW2
  have hrs : RepS W2 (fun b => w.heap.size < b ∧ b < W2.heap.size) [agT a, agT b] (some ⟨w1'.heap.size, 0, none⟩) 2 := by
    refine ⟨Nat.le_refl _, by decide, .inr ⟨w1'.heap.size, 0, rfl, ⟨by have := HS0.out; have := HL1.out.size; omega, HS2.out⟩, ?_⟩⟩
    exact two_kids (l := []) (l' := []) HX2.out (rep_ag ha) (rep_ag hbs)
  refine (rapp_any _ [agT a, agT b] _ _ W2 _ (fun b h => h.2) (by decide) (by simp) (by simp) hrs).mono ?_
  rintro e w3 ⟨A3, c3, rfl, hr3, hb3⟩
  have hx3 : w3.heap[w.heap.size]? = some (.cells #[.int .i64 0, .string ⟨#[]⟩, .int .i64 0, .slice none 0 0] 35 (0, 0)) := by
    rw [hb3.block _ (by have := HS0.out; have := HL2.out.size; omega), HL2.out.below.block _ HS0.out]; exact HX0.out
  have hb : Below w.heap.size w w3 := HB0.out.below.trans ((HL2.out.below.trans (hb3.mono HL2.out.size)).mono (by have := HS0.out; omega))
  have hs3 := hb3.size
  have hr4 : RepP w3 (fun b => w.heap.size < b ∧ b < w3.heap.size) (shT a b) A3 c3 := RepP.mono (fun b h => by
    rcases h with h | h
    · exact ⟨h.1, by omega⟩
    · exact ⟨by have := HS2.out; have := HS0.out; have := HL1.out.size; omega, h.2⟩) (fun _ _ => rfl) _ _ _ hr3
  obtain ⟨r0, r1, r2, r3, rf⟩ := box_at hx3
  have HB := Lib.hid hb; have HR4 := Lib.hid hr4
  clear hrs hr3 hb3 hx3 hb hs3 hr4
  simp only [Tm.val, Tm.kind, Tm.name, Tm.sort, Tm.kids, List.length_cons, List.length_nil, Nat.zero_add]
  go_wp2_with fail
  refine bodyPost_ret (v := (shT a b).val A3 c3) ?_ rfl ?_
  · simp [results, Tryd.results90, go_sem, r0, r1, r2, r3, shT, Tm.val, Tm.kind, Tm.name, Tm.sort, Tm.kids]
  refine ⟨_, _, rfl, ?_, below_put _ _ _ _ HB.out (Nat.le_refl _)⟩
  rw [size_put]
  exact RepP.mono (fun b h => ⟨Nat.le_of_lt h.1, h.2⟩) (fun q hq => box_put _ _ _ _ (by have := hq.1; omega)) _ _ _ HR4.out

end Go.Proofs.YtpjmdilpldaapaaDoor
