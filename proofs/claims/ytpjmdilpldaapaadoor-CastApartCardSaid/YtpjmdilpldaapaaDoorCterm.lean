/- The terms of agents and keys: what the program and the reference make. -/
import Derived.Test.YtpjmdilpldaapaaDoorCstr
namespace Go.Proofs.YtpjmdilpldaapaaDoor
open Go.RowKit

/-- a term is returned whose parts lie in blocks of the call's own -/
def NewT (w : World) (t : Tm) (e : Ending) (w' : World) : Prop := ∃ A c, e = .returned (t.val A c) ∧ RepP w' (fun b => w.heap.size ≤ b ∧ b < w'.heap.size) t A c ∧ Below w.heap.size w w'
/-- .. its kids, k of them, one behind the other in a block -/
theorem rep_app {w : World} {P : Nat → Prop} {x : ByteArray} {l : List Tm} {b c : Nat} (hx : x.size ≤ maxLen) (hl : l.length ≤ c) (hc : c ≤ maxLen) (hb : P b) (hL : RepLP w P l b 0) : RepP w P (.mk 3 x 0 l) (some ⟨b, 0, none⟩) c := by
  rw [RepP_mk]
  exact ⟨hx, hl, hc, .inr ⟨b, 0, rfl, hb, hL⟩⟩
theorem rep_ag {w : World} {P : Nat → Prop} {a : ByteArray} (ha : a.size ≤ maxLen) : RepP w P (agT a) none 0 := by
  rw [agT, RepP_mk]
  exact ⟨ha, Nat.le_refl _, Nat.zero_le _, .inl rfl⟩

theorem agent_any (x : ByteArray) (w : World) :
    Calls Tryd.prog 61 #[.string x] w fun e w' => e = .returned (.agg #[.int .i64 2, .string x, .int .i64 1, .slice none 0 0]) ∧ Lay w.heap.size w w' := by
  go_enter Tryd.func61, Tryd.ntmps61
  go_wp2_with fail
  refine bodyPost_ret (v := .agg #[.int .i64 2, .string x, .int .i64 1, .slice none 0 0]) ?_ rfl ?_
  · simp [results, Tryd.results61, go_sem]
  refine ⟨rfl, ?_⟩
  first | exact (Lay.refl _ _).alloc (Nat.le_refl _) _ | (iterate 4 refine Lay.setCell ?_ (by exact Nat.le_refl _) _); exact (Lay.refl _ _).alloc (Nat.le_refl _) _

theorem capp_any (x : ByteArray) (A : Option Addr) (n c : Nat) (w : World) :
    Calls Tryd.prog 98 #[.string x, .slice A n c] w fun e w' => e = .returned (.agg #[.int .i64 3, .string x, .int .i64 0, .slice A n c]) ∧ Lay w.heap.size w w' := by
  go_enter Tryd.func98, Tryd.ntmps98
  go_wp2_with fail
  refine bodyPost_ret (v := .agg #[.int .i64 3, .string x, .int .i64 0, .slice A n c]) ?_ rfl ?_
  · simp [results, Tryd.results98, go_sem]
  refine ⟨rfl, ?_⟩
  first | exact (Lay.refl _ _).alloc (Nat.le_refl _) _ | (iterate 4 refine Lay.setCell ?_ (by exact Nat.le_refl _) _); exact (Lay.refl _ _).alloc (Nat.le_refl _) _

/-- the result's box is there yet, and the block of the kids -/
theorem cell_lay {w w' : World} (h : Lay w.heap.size w w') {p : Addr} {v : Value} (hp : w.cell? p = some v) : w'.cell? p = some v := by
  rw [h.below.cell (World.block_lt hp)]; exact hp

/-- one kid in a block of its own -/
theorem one_kid {w' : World} {P : Nat → Prop} {b : Nat} {k s : Int} {n : ByteArray} {l : List Tm} {A : Option Addr} {c : Nat} {T : TypeId} {fr : Nat × Nat} (hb : w'.heap[b]? = some (.cells #[.int .i64 k, .string n, .int .i64 s, .slice A l.length c] T fr))
    (hr : RepP w' P (.mk k n s l) A c) : RepLP w' P [.mk k n s l] b 0 := by
  rw [RepLP, RepLP]
  refine ⟨⟨A, c, ?_, ?_, ?_, ?_, hr⟩, trivial⟩ <;> simp [World.cell?, hb, Tm.kind, Tm.name, Tm.sort, Tm.kids]
theorem two_kids {w' : World} {P : Nat → Prop} {b : Nat} {k s : Int} {n : ByteArray} {l : List Tm} {A : Option Addr} {c : Nat} {k' s' : Int} {n' : ByteArray} {l' : List Tm} {A' : Option Addr} {c' : Nat} {T : TypeId} {fr : Nat × Nat}
    (hb : w'.heap[b]? = some (.cells #[.int .i64 k, .string n, .int .i64 s, .slice A l.length c, .int .i64 k', .string n', .int .i64 s', .slice A' l'.length c'] T fr))
    (hr : RepP w' P (.mk k n s l) A c) (hr' : RepP w' P (.mk k' n' s' l') A' c') : RepLP w' P [.mk k n s l, .mk k' n' s' l'] b 0 := by
  rw [RepLP, RepLP, RepLP]
  refine ⟨⟨A, c, ?_, ?_, ?_, ?_, hr⟩, ⟨A', c', ?_, ?_, ?_, ?_, hr'⟩, trivial⟩ <;> simp [World.cell?, hb, Tm.kind, Tm.name, Tm.sort, Tm.kids]
/-- the result's box is written: what lies elsewhere stays -/
theorem box_put {w : World} {B : Nat} (a b c d : Value) {q : Addr} (h : q.block ≠ B) : ((((w.setCell ⟨B, 0, none⟩ a).setCell ⟨B, 1, none⟩ b).setCell ⟨B, 2, none⟩ c).setCell ⟨B, 3, none⟩ d).cell? q = w.cell? q := by
  have hne : ∀ o, (⟨B, o, none⟩ : Addr) ≠ q := fun o e => h (by rw [← e])
  rw [World.cell?_setCell_other _ _ _ _ (hne _), World.cell?_setCell_other _ _ _ _ (hne _), World.cell?_setCell_other _ _ _ _ (hne _), World.cell?_setCell_other _ _ _ _ (hne _)]
theorem lay_put {w : World} {B : Nat} (a b c d : Value) {w0 : World} {B0 : Nat} (h : Lay B0 w0 w) (hB : B0 ≤ B) : Lay B0 w0 ((((w.setCell ⟨B, 0, none⟩ a).setCell ⟨B, 1, none⟩ b).setCell ⟨B, 2, none⟩ c).setCell ⟨B, 3, none⟩ d) :=
  ((((h.setCell (by exact hB) _).setCell (by exact hB) _).setCell (by exact hB) _).setCell (by exact hB) _)
theorem below_put {w : World} {B : Nat} (a b c d : Value) {w0 : World} {B0 : Nat} (h : Below B0 w0 w) (hB : B0 ≤ B) : Below B0 w0 ((((w.setCell ⟨B, 0, none⟩ a).setCell ⟨B, 1, none⟩ b).setCell ⟨B, 2, none⟩ c).setCell ⟨B, 3, none⟩ d) :=
  ((((h.setCell (by exact hB) _).setCell (by exact hB) _).setCell (by exact hB) _).setCell (by exact hB) _)
theorem size_put {w : World} {B : Nat} (a b c d : Value) : ((((w.setCell ⟨B, 0, none⟩ a).setCell ⟨B, 1, none⟩ b).setCell ⟨B, 2, none⟩ c).setCell ⟨B, 3, none⟩ d).heap.size = w.heap.size := by simp [World.setCell]

set_option maxHeartbeats 1000000 in
theorem private_any (a : ByteArray) (ha : a.size ≤ maxLen) (w : World) : Calls Tryd.prog 86 #[.string a] w (NewT w (skT a)) := by
  go_enter Tryd.func86, Tryd.ntmps86
  go_wp2_with fail
  obtain ⟨W0, hW0⟩ : ∃ W0, W0 = w.alloc (.cells #[.int .i64 0, .string ⟨#[]⟩, .int .i64 0, .slice none 0 0] 35) := ⟨_, rfl⟩
  rw [← hW0]
  have hb0 : Lay w.heap.size w W0 := by rw [hW0]; exact (Lay.refl _ _).alloc (Nat.le_refl _) _
  have hx0 : W0.heap[w.heap.size]? = some (.cells #[.int .i64 0, .string ⟨#[]⟩, .int .i64 0, .slice none 0 0] 35 (0, 0)) := by rw [hW0]; exact heap_alloc_new _ _
  have hs0 : w.heap.size < W0.heap.size := by rw [hW0]; simp
  have HB0 := Lib.hid hb0; have HX0 := Lib.hid hx0; have HS0 := Lib.hid hs0
  clear hb0 hx0 hs0 hW0
  refine (agent_any a W0).mono ?_
  rintro e w1 ⟨rfl, hl1⟩
  have HL1 := Lib.hid hl1; clear hl1
  go_wp2_with fail
  obtain ⟨W2, hW2⟩ : ∃ W2, W2 = w1.alloc (.cells #[.int .i64 2, .string a, .int .i64 1, .slice none 0 0] 35) := ⟨_, rfl⟩
  rw [← hW2]
  have hl2 : Lay W0.heap.size W0 W2 := by rw [hW2]; exact HL1.out.alloc HL1.out.size _
  have hx2 : W2.heap[w1.heap.size]? = some (.cells #[.int .i64 2, .string a, .int .i64 1, .slice none 0 0] 35 (0, 0)) := by rw [hW2]; exact heap_alloc_new _ _
  have hs2 : w1.heap.size < W2.heap.size := by rw [hW2]; simp
  have HL2 := Lib.hid hl2; have HX2 := Lib.hid hx2; have HS2 := Lib.hid hs2
  clear hl2 hx2 hs2 hW2
  refine (capp_any _ _ _ _ W2).mono ?_
  rintro e w3 ⟨rfl, hl3⟩
  have hx3 : w3.heap[w.heap.size]? = some (.cells #[.int .i64 0, .string ⟨#[]⟩, .int .i64 0, .slice none 0 0] 35 (0, 0)) := by
    rw [hl3.below.block _ (by have := HS0.out; have := HL2.out.size; omega), HL2.out.below.block _ HS0.out]; exact HX0.out
  have hk3 : w3.heap[w1.heap.size]? = some (.cells #[.int .i64 2, .string a, .int .i64 1, .slice none 0 0] 35 (0, 0)) := by
    rw [hl3.below.block _ HS2.out]; exact HX2.out
  have hl : Below w.heap.size w w3 := (HB0.out.trans (((HL2.out.trans (hl3.mono HL2.out.size))).mono (by have := HS0.out; omega))).below
  obtain ⟨r0, r1, r2, r3, rf⟩ := box_at hx3
  have hs1 : w.heap.size < w1.heap.size := Nat.lt_of_lt_of_le HS0.out HL1.out.size
  have hs3 : w1.heap.size < w3.heap.size := Nat.lt_of_lt_of_le HS2.out hl3.size
  have HK := Lib.hid hk3; have HL := Lib.hid hl; have HS1 := Lib.hid hs1; have HS3 := Lib.hid hs3
  clear hk3 hl hl3 hx3 HL2 HX2 HS2 HL1 HB0 HX0 HS0 hs1 hs3
  go_wp2_with fail
  refine bodyPost_ret (v := (skT a).val (some ⟨w1.heap.size, 0, none⟩) 1) ?_ rfl ?_
  · simp [results, Tryd.results86, go_sem, r0, r1, r2, r3, skT, Tm.val, Tm.kind, Tm.name, Tm.sort, Tm.kids]
  refine ⟨_, _, rfl, ?_, below_put _ _ _ _ HL.out (Nat.le_refl _)⟩
  rw [size_put]
  refine RepP.mono (P := fun b => b = w1.heap.size) (w := w3) (fun b hb => by rw [hb]; exact ⟨by have := HS1.out; omega, HS3.out⟩) (fun q hq => box_put _ _ _ _ (by rw [hq]; have := HS1.out; omega)) _ _ _ ?_
  exact rep_app (by decide) (by simp) (by decide) rfl (one_kid (l := []) HK.out (rep_ag ha))

set_option maxHeartbeats 1000000 in
theorem public_any (a : ByteArray) (ha : a.size ≤ maxLen) (w : World) : Calls Tryd.prog 85 #[.string a] w (NewT w (pkT a)) := by
  go_enter Tryd.func85, Tryd.ntmps85
  go_wp2_with fail
  obtain ⟨W0, hW0⟩ : ∃ W0, W0 = w.alloc (.cells #[.int .i64 0, .string ⟨#[]⟩, .int .i64 0, .slice none 0 0] 35) := ⟨_, rfl⟩
  rw [← hW0]
  have hb0 : Lay w.heap.size w W0 := by rw [hW0]; exact (Lay.refl _ _).alloc (Nat.le_refl _) _
  have hx0 : W0.heap[w.heap.size]? = some (.cells #[.int .i64 0, .string ⟨#[]⟩, .int .i64 0, .slice none 0 0] 35 (0, 0)) := by rw [hW0]; exact heap_alloc_new _ _
  have hs0 : w.heap.size < W0.heap.size := by rw [hW0]; simp
  have HB0 := Lib.hid hb0; have HX0 := Lib.hid hx0; have HS0 := Lib.hid hs0
  clear hb0 hx0 hs0 hW0
  refine (private_any a ha W0).mono ?_
  rintro e w1 ⟨A1, c1, rfl, hr1, hl1⟩
  have HL1 := Lib.hid hl1; clear hl1
  have HR1 := Lib.hid hr1; clear hr1
  simp only [skT, Tm.val, Tm.kind, Tm.name, Tm.sort, Tm.kids]
  go_wp2_with fail
  obtain ⟨W2, hW2⟩ : ∃ W2, W2 = w1.alloc (.cells #[.int .i64 3, .string ⟨#[115, 107]⟩, .int .i64 0, .slice A1 [agT a].length c1] 35) := ⟨_, rfl⟩
  simp only [List.length_cons, List.length_nil, Nat.zero_add] at hW2 ⊢
  rw [← hW2]
  have hl2 : Below W0.heap.size W0 W2 := by rw [hW2]; exact HL1.out.alloc HL1.out.size _
  have hx2 : W2.heap[w1.heap.size]? = some (.cells #[.int .i64 3, .string ⟨#[115, 107]⟩, .int .i64 0, .slice A1 [agT a].length c1] 35 (0, 0)) := by rw [hW2]; exact heap_alloc_new _ _
  have hb2 : Below w1.heap.size w1 W2 := by rw [hW2]; exact below1 (Nat.le_refl _) _
  have hs2 : w1.heap.size < W2.heap.size := by rw [hW2]; simp
  have HL2 := Lib.hid hl2; have HX2 := Lib.hid hx2; have HS2 := Lib.hid hs2; have HB2 := Lib.hid hb2
  clear hl2 hx2 hs2 hW2 hb2
  refine (capp_any _ _ _ _ W2).mono ?_
  rintro e w3 ⟨rfl, hl3⟩
  have hx3 : w3.heap[w.heap.size]? = some (.cells #[.int .i64 0, .string ⟨#[]⟩, .int .i64 0, .slice none 0 0] 35 (0, 0)) := by
    rw [hl3.below.block _ (by have := HS0.out; have := HL2.out.size; omega), HL2.out.block _ HS0.out]; exact HX0.out
  have hk3 : w3.heap[w1.heap.size]? = some (.cells #[.int .i64 3, .string ⟨#[115, 107]⟩, .int .i64 0, .slice A1 [agT a].length c1] 35 (0, 0)) := by
    rw [hl3.below.block _ HS2.out]; exact HX2.out
  have hl : Below w.heap.size w w3 := HB0.out.below.trans (((HL2.out.trans (hl3.below.mono HL2.out.size))).mono (by have := HS0.out; omega))
  obtain ⟨r0, r1, r2, r3, rf⟩ := box_at hx3
  have hs1 : w.heap.size < w1.heap.size := Nat.lt_of_lt_of_le HS0.out HL1.out.size
  have hs3 : w1.heap.size < w3.heap.size := Nat.lt_of_lt_of_le HS2.out hl3.size
  have hr3 : RepP w3 (fun b => w.heap.size < b ∧ b ≤ w1.heap.size) (skT a) A1 c1 := RepP.mono (fun b ⟨h1, h2⟩ => ⟨by have := HS0.out; omega, by omega⟩) (fun q ⟨_, h2⟩ => by
    rw [hl3.below.cell (by have := HS2.out; omega), HB2.out.cell h2]) _ _ _ HR1.out
  have HK := Lib.hid hk3; have HL := Lib.hid hl; have HS1 := Lib.hid hs1; have HS3 := Lib.hid hs3; have HR3 := Lib.hid hr3
  clear hk3 hl hl3 hx3 HL2 HX2 HS2 HL1 HB0 HX0 HS0 hs1 hs3 hr3 HR1 HB2
  go_wp2_with fail
  refine bodyPost_ret (v := (pkT a).val (some ⟨w1.heap.size, 0, none⟩) 1) ?_ rfl ?_
  · simp [results, Tryd.results85, go_sem, r0, r1, r2, r3, pkT, Tm.val, Tm.kind, Tm.name, Tm.sort, Tm.kids]
  refine ⟨_, _, rfl, ?_, below_put _ _ _ _ HL.out (Nat.le_refl _)⟩
  rw [size_put]
  refine RepP.mono (P := fun b => w.heap.size < b ∧ b ≤ w1.heap.size) (w := w3) (fun b hb => ⟨by omega, by have := HS3.out; omega⟩) (fun q hq => box_put _ _ _ _ (by omega)) _ _ _ ?_
  exact rep_app (by decide) (by simp) (by decide) ⟨HS1.out, Nat.le_refl _⟩ (one_kid (l := [agT a]) HK.out HR3.out)

set_option maxHeartbeats 1000000 in
theorem shared_any (a b : ByteArray) (ha : a.size ≤ maxLen) (hb : b.size ≤ maxLen) (w : World) : Calls Tryd.prog 87 #[.string a, .string b] w (NewT w (shT a b)) := by
  go_enter Tryd.func87, Tryd.ntmps87
  go_wp2_with fail
  obtain ⟨W0, hW0⟩ : ∃ W0, W0 = w.alloc (.cells #[.int .i64 0, .string ⟨#[]⟩, .int .i64 0, .slice none 0 0] 35) := ⟨_, rfl⟩
  rw [← hW0]
  have hb0 : Lay w.heap.size w W0 := by rw [hW0]; exact (Lay.refl _ _).alloc (Nat.le_refl _) _
  have hx0 : W0.heap[w.heap.size]? = some (.cells #[.int .i64 0, .string ⟨#[]⟩, .int .i64 0, .slice none 0 0] 35 (0, 0)) := by rw [hW0]; exact heap_alloc_new _ _
  have hs0 : w.heap.size < W0.heap.size := by rw [hW0]; simp
  have HB0 := Lib.hid hb0; have HX0 := Lib.hid hx0; have HS0 := Lib.hid hs0
  clear hb0 hx0 hs0 hW0
  refine (agent_any a W0).mono ?_
  rintro e w1 ⟨rfl, hl1⟩
  have HL1 := Lib.hid hl1; clear hl1
  go_wp2_with fail
  refine (agent_any b w1).mono ?_
  rintro e w1' ⟨rfl, hl1'⟩
  have HL1 := Lib.hid (HL1.out.trans (hl1'.mono HL1.out.size)); clear hl1'
  go_wp2_with fail
  obtain ⟨W2, hW2⟩ : ∃ W2, W2 = w1'.alloc (.cells #[.int .i64 2, .string a, .int .i64 1, .slice none 0 0, .int .i64 2, .string b, .int .i64 1, .slice none 0 0] 35) := ⟨_, rfl⟩
  rw [← hW2]
  have hl2 : Lay W0.heap.size W0 W2 := by rw [hW2]; exact HL1.out.alloc HL1.out.size _
  have hx2 : W2.heap[w1'.heap.size]? = some (.cells #[.int .i64 2, .string a, .int .i64 1, .slice none 0 0, .int .i64 2, .string b, .int .i64 1, .slice none 0 0] 35 (0, 0)) := by rw [hW2]; exact heap_alloc_new _ _
  have hs2 : w1'.heap.size < W2.heap.size := by rw [hW2]; simp
  have HL2 := Lib.hid hl2; have HX2 := Lib.hid hx2; have HS2 := Lib.hid hs2
  clear hl2 hx2 hs2 hW2
  refine (capp_any _ _ _ _ W2).mono ?_
  rintro e w3 ⟨rfl, hl3⟩
  have hx3 : w3.heap[w.heap.size]? = some (.cells #[.int .i64 0, .string ⟨#[]⟩, .int .i64 0, .slice none 0 0] 35 (0, 0)) := by
    rw [hl3.below.block _ (by have := HS0.out; have := HL2.out.size; omega), HL2.out.below.block _ HS0.out]; exact HX0.out
  have hk3 : w3.heap[w1'.heap.size]? = some (.cells #[.int .i64 2, .string a, .int .i64 1, .slice none 0 0, .int .i64 2, .string b, .int .i64 1, .slice none 0 0] 35 (0, 0)) := by
    rw [hl3.below.block _ HS2.out]; exact HX2.out
  have hl : Below w.heap.size w w3 := (HB0.out.trans (((HL2.out.trans (hl3.mono HL2.out.size))).mono (by have := HS0.out; omega))).below
  obtain ⟨r0, r1, r2, r3, rf⟩ := box_at hx3
  have hs1 : w.heap.size < w1'.heap.size := Nat.lt_of_lt_of_le HS0.out HL1.out.size
  have hs3 : w1'.heap.size < w3.heap.size := Nat.lt_of_lt_of_le HS2.out hl3.size
  have HK := Lib.hid hk3; have HL := Lib.hid hl; have HS1 := Lib.hid hs1; have HS3 := Lib.hid hs3
  clear hk3 hl hl3 hx3 HL2 HX2 HS2 HL1 HB0 HX0 HS0 hs1 hs3
  go_wp2_with fail
  refine bodyPost_ret (v := (shT a b).val (some ⟨w1'.heap.size, 0, none⟩) 2) ?_ rfl ?_
  · simp [results, Tryd.results87, go_sem, r0, r1, r2, r3, shT, Tm.val, Tm.kind, Tm.name, Tm.sort, Tm.kids]
  refine ⟨_, _, rfl, ?_, below_put _ _ _ _ HL.out (Nat.le_refl _)⟩
  rw [size_put]
  refine RepP.mono (P := fun b => b = w1'.heap.size) (w := w3) (fun b hb => by rw [hb]; exact ⟨by have := HS1.out; omega, HS3.out⟩) (fun q hq => box_put _ _ _ _ (by rw [hq]; have := HS1.out; omega)) _ _ _ ?_
  exact rep_app (by decide) (by simp) (by decide) rfl (two_kids (l := []) (l' := []) HK.out (rep_ag ha) (rep_ag hb))
end Go.Proofs.YtpjmdilpldaapaaDoor
