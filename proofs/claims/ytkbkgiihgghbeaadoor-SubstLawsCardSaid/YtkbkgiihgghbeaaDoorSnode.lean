/- The reference's node, Grown, Made: terms and substitutions out of bytes. -/
import Derived.Test.YtkbkgiihgghbeaaDoorSlaws0
import Derived.Test.YtkbkgiihgghbeaaDoorSawake
namespace Go.Proofs.YtkbkgiihgghbeaaDoor
open Go.RowKit Go.Sort

/-- A slice of bytes. -/
def RepU (w : World) (P : Nat → Prop) (l : List Nat) (A : Option Addr) (cap : Nat) : Prop :=
  l.length ≤ cap ∧ cap ≤ maxLen ∧ (∀ x ∈ l, x < 256) ∧ (l = [] ∨ ∃ b off, A = some ⟨b, off, none⟩ ∧ P b ∧ ∀ i, (h : i < l.length) → w.cell? ⟨b, off + i, none⟩ = some (.int .u8 l[i]))
def leafN (c : Nat) : Tm := if c = 0 then .mk 1 ⟨#[120]⟩ 0 [] else if c = 1 then .mk 1 ⟨#[121]⟩ 0 [] else if c = 2 then .mk 1 ⟨#[122]⟩ 0 [] else if c = 3 then .mk 2 ⟨#[97]⟩ 0 [] else if c = 4 then .mk 1 ⟨#[110]⟩ 2 [] else .mk 2 ⟨#[109]⟩ 2 []
def growE (bs : List Nat) : Nat → Nat → Tm × Nat
  | 0, a => (leafN (bs.getD a 3 % 6), a + 1)
  | f + 1, a => if bs.getD a 3 % 8 < 6 then (leafN (bs.getD a 3 % 8), a + 1) else if bs.getD a 3 % 8 = 6 then (.mk 3 ⟨#[103]⟩ 0 [(growE bs f (a + 1)).1], (growE bs f (a + 1)).2)
    else (.mk 3 ⟨#[102]⟩ 0 [(growE bs f (a + 1)).1, (growE bs f (growE bs f (a + 1)).2).1], (growE bs f (growE bs f (a + 1)).2).2)

theorem getD_lt {l : List Nat} {i : Nat} (h : i < l.length) : l.getD i 3 = l[i] := by simp [List.getD_eq_getElem?_getD, List.getElem?_eq_getElem h]
theorem getD_ge {l : List Nat} {i : Nat} (h : l.length ≤ i) : l.getD i 3 = 3 := by simp [List.getD_eq_getElem?_getD, List.getElem?_eq_none h]
theorem growE_next (bs : List Nat) : ∀ f a, (growE bs f a).2 ≤ a + (2 ^ (f + 1) - 1)
  | 0, a => by rw [growE]; simp
  | f + 1, a => by
    have h1 := growE_next bs f (a + 1)
    have h2 := growE_next bs f (growE bs f (a + 1)).2
    have e : 2 ^ (f + 1 + 1) = 2 ^ (f + 1) + 2 ^ (f + 1) := by rw [Nat.pow_succ 2 (f + 1)]; omega
    have hp : 1 ≤ 2 ^ (f + 1) := Nat.one_le_two_pow
    rw [growE]
    split
    · show a + 1 ≤ _; omega
    · split
      · show (growE bs f (a + 1)).2 ≤ _; omega
      · show (growE bs f (growE bs f (a + 1)).2).2 ≤ _; omega
theorem ex0 : ByteArray.extract ⟨#[120, 121, 122]⟩ 0 1 = ⟨#[120]⟩ := by rfl
theorem ex1 : ByteArray.extract ⟨#[120, 121, 122]⟩ 1 2 = ⟨#[121]⟩ := by rfl
theorem ex2 : ByteArray.extract ⟨#[120, 121, 122]⟩ 2 3 = ⟨#[122]⟩ := by rfl
set_option maxHeartbeats 1000000 in
set_option maxRecDepth 100000 in
theorem node_zero (bs : List Nat) (A : Option Addr) (cap : Nat) (a : Nat) (w : World) (ha : a ≤ 1000000) (hrep : RepU w (fun b => b < w.heap.size) bs A cap) :
    Calls Tryd.prog 51 #[.slice A bs.length cap, .int .i64 a, .int .i64 5] w fun e w' => ∃ A' c', e = .returned (.tuple #[(growE bs 0 a).1.val A' c', .int .i64 ((a : Int) + 1)]) ∧ RepP w' (fun b => w.heap.size ≤ b ∧ b < w'.heap.size) (growE bs 0 a).1 A' c' ∧ Below w.heap.size w w' := by
  have mixed : Tryd.prog.follows .mixedOrders = true := by kernel_rfl
  have x0 := ex0
  have x1 := ex1
  have x2 := ex2
  obtain ⟨h1, h2, h3, h4⟩ := hrep
  unfold maxLen at h2
  have i1 : (0 : Int) ≤ (a : Int) := Int.natCast_nonneg _
  by_cases hlt : a < bs.length
  · have i2 : (a : Int) < (bs.length : Int) := by omega
    rcases h4 with rfl | ⟨b, off, rfl, hb, hc⟩
    · simp at hlt
    have c0 := hc a hlt
    have hE : (growE bs 0 a).1 = leafN (bs[a] % 6) := by rw [growE, getD_lt hlt]
    have hr : bs[a] % 6 < 6 := Nat.mod_lt _ (by decide)
    obtain ⟨r, hrr⟩ : ∃ r, r = bs[a] % 6 := ⟨_, rfl⟩
    rw [← hrr] at hE hr
    have m6 : (bs[a] : Int) % 6 = (r : Int) := by omega
    clear hrr hc h3
    match r, hr with
    | 0, _ =>
      have m6 : (bs[a] : Int) % 6 = 0 := m6
      rw [hE]
      go_enter Tryd.func51, Tryd.ntmps51
      go_wp2_with fail
      refine (var_any _ _ _).mono ?_
      rintro e w1 ⟨rfl, hl1⟩
      have hz : w1.heap[w.heap.size]? = some (.cells #[.int .i64 0, .string ⟨#[]⟩, .int .i64 0, .slice none 0 0] 30 (0, 0)) := (hl1.below.block _ (by simp)).trans (heap_alloc_new _ _)
      obtain ⟨b0, b1, b2, b3, bf⟩ := box_at hz
      have HB1 := Lib.hid (below_then (below1 (Nat.le_refl _) _) hl1.below (by simp))
      have hs1 := hl1.size
      rw [World.size_alloc] at hs1
      clear hz hl1
      simp only [Tm.val, Tm.kind, Tm.name, Tm.sort, Tm.kids, List.length_nil]
      go_wp2_with fail
      refine bodyPost_ret (v := .tuple #[.agg #[.int .i64 1, .string ⟨#[120]⟩, .int .i64 0, .slice none 0 0], .int .i64 ((a : Int) + 1)]) ?_ rfl ?_
      · simp [results, Tryd.results51, go_sem, b0, b1, b2, b3]
      refine ⟨none, 0, by simp [leafN, Tm.val, Tm.kind, Tm.name, Tm.sort, Tm.kids], rep_leaf _ _ _ (by decide), ?_⟩
      iterate 4 refine Below.setCell ?_ (by exact Nat.le_refl _) _
      exact HB1.out
    | 1, _ =>
      have m6 : (bs[a] : Int) % 6 = 1 := m6
      rw [hE]
      go_enter Tryd.func51, Tryd.ntmps51
      go_wp2_with fail
      refine (var_any _ _ _).mono ?_
      rintro e w1 ⟨rfl, hl1⟩
      have hz : w1.heap[w.heap.size]? = some (.cells #[.int .i64 0, .string ⟨#[]⟩, .int .i64 0, .slice none 0 0] 30 (0, 0)) := (hl1.below.block _ (by simp)).trans (heap_alloc_new _ _)
      obtain ⟨b0, b1, b2, b3, bf⟩ := box_at hz
      have HB1 := Lib.hid (below_then (below1 (Nat.le_refl _) _) hl1.below (by simp))
      have hs1 := hl1.size
      rw [World.size_alloc] at hs1
      clear hz hl1
      simp only [Tm.val, Tm.kind, Tm.name, Tm.sort, Tm.kids, List.length_nil]
      go_wp2_with fail
      refine bodyPost_ret (v := .tuple #[.agg #[.int .i64 1, .string ⟨#[121]⟩, .int .i64 0, .slice none 0 0], .int .i64 ((a : Int) + 1)]) ?_ rfl ?_
      · simp [results, Tryd.results51, go_sem, b0, b1, b2, b3]
      refine ⟨none, 0, by simp [leafN, Tm.val, Tm.kind, Tm.name, Tm.sort, Tm.kids], rep_leaf _ _ _ (by decide), ?_⟩
      iterate 4 refine Below.setCell ?_ (by exact Nat.le_refl _) _
      exact HB1.out
    | 2, _ =>
      have m6 : (bs[a] : Int) % 6 = 2 := m6
      rw [hE]
      go_enter Tryd.func51, Tryd.ntmps51
      go_wp2_with fail
      refine (var_any _ _ _).mono ?_
      rintro e w1 ⟨rfl, hl1⟩
      have hz : w1.heap[w.heap.size]? = some (.cells #[.int .i64 0, .string ⟨#[]⟩, .int .i64 0, .slice none 0 0] 30 (0, 0)) := (hl1.below.block _ (by simp)).trans (heap_alloc_new _ _)
      obtain ⟨b0, b1, b2, b3, bf⟩ := box_at hz
      have HB1 := Lib.hid (below_then (below1 (Nat.le_refl _) _) hl1.below (by simp))
      have hs1 := hl1.size
      rw [World.size_alloc] at hs1
      clear hz hl1
      simp only [Tm.val, Tm.kind, Tm.name, Tm.sort, Tm.kids, List.length_nil]
      go_wp2_with fail
      refine bodyPost_ret (v := .tuple #[.agg #[.int .i64 1, .string ⟨#[122]⟩, .int .i64 0, .slice none 0 0], .int .i64 ((a : Int) + 1)]) ?_ rfl ?_
      · simp [results, Tryd.results51, go_sem, b0, b1, b2, b3]
      refine ⟨none, 0, by simp [leafN, Tm.val, Tm.kind, Tm.name, Tm.sort, Tm.kids], rep_leaf _ _ _ (by decide), ?_⟩
      iterate 4 refine Below.setCell ?_ (by exact Nat.le_refl _) _
      exact HB1.out
    | 3, _ =>
      have m6 : (bs[a] : Int) % 6 = 3 := m6
      rw [hE]
      go_enter Tryd.func51, Tryd.ntmps51
      go_wp2_with fail
      refine (atom_any _ _ _).mono ?_
      rintro e w1 ⟨rfl, hl1⟩
      have hz : w1.heap[w.heap.size]? = some (.cells #[.int .i64 0, .string ⟨#[]⟩, .int .i64 0, .slice none 0 0] 30 (0, 0)) := (hl1.below.block _ (by simp)).trans (heap_alloc_new _ _)
      obtain ⟨b0, b1, b2, b3, bf⟩ := box_at hz
      have HB1 := Lib.hid (below_then (below1 (Nat.le_refl _) _) hl1.below (by simp))
      have hs1 := hl1.size
      rw [World.size_alloc] at hs1
      clear hz hl1
      simp only [Tm.val, Tm.kind, Tm.name, Tm.sort, Tm.kids, List.length_nil]
      go_wp2_with fail
      refine bodyPost_ret (v := .tuple #[.agg #[.int .i64 2, .string ⟨#[97]⟩, .int .i64 0, .slice none 0 0], .int .i64 ((a : Int) + 1)]) ?_ rfl ?_
      · simp [results, Tryd.results51, go_sem, b0, b1, b2, b3]
      refine ⟨none, 0, by simp [leafN, Tm.val, Tm.kind, Tm.name, Tm.sort, Tm.kids], rep_leaf _ _ _ (by decide), ?_⟩
      iterate 4 refine Below.setCell ?_ (by exact Nat.le_refl _) _
      exact HB1.out
    | 4, _ =>
      have m6 : (bs[a] : Int) % 6 = 4 := m6
      rw [hE]
      go_enter Tryd.func51, Tryd.ntmps51
      go_wp2_with fail
      refine (var_any _ _ _).mono ?_
      rintro e w1 ⟨rfl, hl1⟩
      have hz : w1.heap[w.heap.size]? = some (.cells #[.int .i64 0, .string ⟨#[]⟩, .int .i64 0, .slice none 0 0] 30 (0, 0)) := (hl1.below.block _ (by simp)).trans (heap_alloc_new _ _)
      obtain ⟨b0, b1, b2, b3, bf⟩ := box_at hz
      have HB1 := Lib.hid (below_then (below1 (Nat.le_refl _) _) hl1.below (by simp))
      have hs1 := hl1.size
      rw [World.size_alloc] at hs1
      clear hz hl1
      simp only [Tm.val, Tm.kind, Tm.name, Tm.sort, Tm.kids, List.length_nil]
      go_wp2_with fail
      refine bodyPost_ret (v := .tuple #[.agg #[.int .i64 1, .string ⟨#[110]⟩, .int .i64 2, .slice none 0 0], .int .i64 ((a : Int) + 1)]) ?_ rfl ?_
      · simp [results, Tryd.results51, go_sem, b0, b1, b2, b3]
      refine ⟨none, 0, by simp [leafN, Tm.val, Tm.kind, Tm.name, Tm.sort, Tm.kids], rep_leaf _ _ _ (by decide), ?_⟩
      iterate 4 refine Below.setCell ?_ (by exact Nat.le_refl _) _
      exact HB1.out
    | 5, _ =>
      have m6 : (bs[a] : Int) % 6 = 5 := m6
      rw [hE]
      go_enter Tryd.func51, Tryd.ntmps51
      go_wp2_with fail
      refine (atom_any _ _ _).mono ?_
      rintro e w1 ⟨rfl, hl1⟩
      have hz : w1.heap[w.heap.size]? = some (.cells #[.int .i64 0, .string ⟨#[]⟩, .int .i64 0, .slice none 0 0] 30 (0, 0)) := (hl1.below.block _ (by simp)).trans (heap_alloc_new _ _)
      obtain ⟨b0, b1, b2, b3, bf⟩ := box_at hz
      have HB1 := Lib.hid (below_then (below1 (Nat.le_refl _) _) hl1.below (by simp))
      have hs1 := hl1.size
      rw [World.size_alloc] at hs1
      clear hz hl1
      simp only [Tm.val, Tm.kind, Tm.name, Tm.sort, Tm.kids, List.length_nil]
      go_wp2_with fail
      refine bodyPost_ret (v := .tuple #[.agg #[.int .i64 2, .string ⟨#[109]⟩, .int .i64 2, .slice none 0 0], .int .i64 ((a : Int) + 1)]) ?_ rfl ?_
      · simp [results, Tryd.results51, go_sem, b0, b1, b2, b3]
      refine ⟨none, 0, by simp [leafN, Tm.val, Tm.kind, Tm.name, Tm.sort, Tm.kids], rep_leaf _ _ _ (by decide), ?_⟩
      iterate 4 refine Below.setCell ?_ (by exact Nat.le_refl _) _
      exact HB1.out
  · have hE : (growE bs 0 a).1 = leafN 3 := by rw [growE, getD_ge (by omega)]
    clear h3 h4
    rw [hE]
    go_enter Tryd.func51, Tryd.ntmps51
    go_wp2_with fail
    refine (atom_any _ _ _).mono ?_
    rintro e w1 ⟨rfl, hl1⟩
    have hz : w1.heap[w.heap.size]? = some (.cells #[.int .i64 0, .string ⟨#[]⟩, .int .i64 0, .slice none 0 0] 30 (0, 0)) := (hl1.below.block _ (by simp)).trans (heap_alloc_new _ _)
    obtain ⟨b0, b1, b2, b3, bf⟩ := box_at hz
    have HB1 := Lib.hid (below_then (below1 (Nat.le_refl _) _) hl1.below (by simp))
    have hs1 := hl1.size
    rw [World.size_alloc] at hs1
    clear hz hl1
    simp only [Tm.val, Tm.kind, Tm.name, Tm.sort, Tm.kids, List.length_nil]
    go_wp2_with fail
    refine bodyPost_ret (v := .tuple #[.agg #[.int .i64 2, .string ⟨#[97]⟩, .int .i64 0, .slice none 0 0], .int .i64 ((a : Int) + 1)]) ?_ rfl ?_
    · simp [results, Tryd.results51, go_sem, b0, b1, b2, b3]
    refine ⟨none, 0, by simp [leafN, Tm.val, Tm.kind, Tm.name, Tm.sort, Tm.kids], rep_leaf _ _ _ (by decide), ?_⟩
    iterate 4 refine Below.setCell ?_ (by exact Nat.le_refl _) _
    exact HB1.out

set_option maxHeartbeats 1000000 in
theorem app_fresh (P : Nat → Prop) (x : ByteArray) (l : List Tm) (A : Option Addr) (c : Nat) (w : World) (hP : ∀ b, P b → b < w.heap.size) (hx : x.size ≤ maxLen) (hl : l ≠ []) (hl2 : l.length ≤ 1000000) (hrep : RepS w P l A c) :
    Calls Tryd.prog 35 #[.string x, .slice A l.length c] w fun e w' => ∃ A' c', e = .returned ((Tm.mk 3 x 0 l).val A' c') ∧ RepP w' (fun b => P b ∨ w.heap.size ≤ b ∧ b < w'.heap.size) (.mk 3 x 0 l) A' c' ∧ Below w.heap.size w w' := by
  obtain ⟨h1, h2, h3⟩ := hrep
  rcases h3 with h3 | ⟨b, off, rfl, hb, hL⟩
  · exact absurd h3 hl
  obtain ⟨its, hm, hc, hr⟩ := RepLP.its l b off hL
  have hb1 : Below w.heap.size w ((w.alloc (.cells #[.int .i64 0, .string ⟨#[]⟩, .int .i64 0, .slice none 0 0] 30)).alloc (.cells #[] 30)) := (below1 (Nat.le_refl _) _).alloc (by simp) _
  have hr0 : RowT ((w.alloc (.cells #[.int .i64 0, .string ⟨#[]⟩, .int .i64 0, .slice none 0 0] 30)).alloc (.cells #[] 30)) (w.heap.size + 1) P (.slice (some ⟨w.heap.size + 1, 0, none⟩) 0 0) [] := by
    refine ⟨?_, by simp⟩
    have h := World.ownsRow_made (base := w.heap.size + 1) (e := 30) (size := 4) (w.alloc (.cells #[.int .i64 0, .string ⟨#[]⟩, .int .i64 0, .slice none 0 0] 30)) #[] 0 (by simp) (by simp [maxLen]) rfl
    rw [World.size_alloc] at h
    exact h
  have hlen : l.length = its.length := by rw [← hm, List.length_map]
  obtain ⟨A', c', w', hap, hrow, hg, hsome⟩ := hr0.more (fun b h => by have := hP b h; omega) (by simp) b off c l.length its hlen (fun j u hj => by rw [hb1.cell (by exact hP _ hb)]; exact hc j u hj) (fun y hy => RepP.mono (fun _ h => h) (fun q hq => hb1.cell (hP _ hq)) _ _ _ (hr y hy)) (by simp; omega)
  simp only [List.length_nil, Nat.zero_add, List.nil_append] at hap hrow
  have HM := Lib.hid hm; clear hm
  have HLEN := Lib.hid hlen; clear hlen
  have HROW := Lib.hid hrow; clear hrow
  have hbx : w'.heap[w.heap.size]? = some (.cells #[.int .i64 0, .string ⟨#[]⟩, .int .i64 0, .slice none 0 0] 30 (0, 0)) := by
    rw [hg.block _ (by simp; omega) (by simp [Value.ownBlock]), Below.heap_alloc _ _ _ (by simp)]; exact heap_alloc_new _ _
  obtain ⟨r0, r1, r2, r3, rf⟩ := box_at hbx
  have hbw : Below w.heap.size w w' := below_of_grown hb1 (by simp; omega) hg (fun k hk => by simp [Value.ownBlock] at hk; omega)
  have HBW := Lib.hid hbw; clear hbw hbx hg
  clear hr0 hc hr hsome hL
  simp only [Tm.val, Tm.kind, Tm.name, Tm.sort, Tm.kids]
  go_enter Tryd.func35, Tryd.ntmps35
  go_wp2_with (at_builtin; refine wpList_run_append rfl _ _ rfl rfl rfl hap ?_)
  refine bodyPost_ret (v := .agg #[.int .i64 3, .string x, .int .i64 0, .slice A' l.length c']) ?_ rfl ?_
  · simp [results, Tryd.results35, go_sem, r0, r1, r2, r3]
  refine ⟨A', c', rfl, ?_, ?_⟩
  · obtain ⟨A1, c1, he, hS⟩ := HROW.out.toS (P := fun b => P b ∨ w.heap.size < b ∧ b < w'.heap.size) (fun b h h' => .inl h) (fun b h h' => .inr ⟨by omega, h'⟩)
    injection he with he1 _ he3
    subst he1 he3
    rw [HM.out] at hS
    rw [RepP_mk]
    refine ⟨hx, RepS.mono ?_ ?_ hS⟩
    · rintro b (h | ⟨h1, h2⟩)
      · exact .inl h
      · exact .inr ⟨by omega, by simpa [World.setCell] using h2⟩
    · intro q h
      have hne : ∀ o, (⟨w.heap.size, o, none⟩ : Addr) ≠ q := fun o e => by
        rw [← e] at h
        rcases h with h | ⟨h, _⟩
        · have := hP _ h; simp at this
        · simp at h
      rw [World.cell?_setCell_other _ _ _ _ (hne _), World.cell?_setCell_other _ _ _ _ (hne _), World.cell?_setCell_other _ _ _ _ (hne _), World.cell?_setCell_other _ _ _ _ (hne _)]
  · iterate 4 refine Below.setCell ?_ (by exact Nat.le_refl _) _
    exact HBW.out
/-- what stands behind a store into a box that the call laid first -/
theorem fresh_set4 {w Y : World} {t : Tm} {A : Option Addr} {c : Nat} (h : RepP Y (fun k => w.heap.size + 1 ≤ k ∧ k < Y.heap.size) t A c) {x y z v : Value} :
    RepP ((((Y.setCell ⟨w.heap.size, 0, none⟩ x).setCell ⟨w.heap.size, 1, none⟩ y).setCell ⟨w.heap.size, 2, none⟩ z).setCell ⟨w.heap.size, 3, none⟩ v)
      (fun k => w.heap.size ≤ k ∧ k < ((((Y.setCell ⟨w.heap.size, 0, none⟩ x).setCell ⟨w.heap.size, 1, none⟩ y).setCell ⟨w.heap.size, 2, none⟩ z).setCell ⟨w.heap.size, 3, none⟩ v).heap.size) t A c := by
  refine RepP.mono ?_ ?_ _ _ _ h
  · rintro k ⟨h1, h2⟩; exact ⟨by omega, by simpa [World.setCell] using h2⟩
  · rintro q ⟨h1, h2⟩
    have hne : ∀ o, (⟨w.heap.size, o, none⟩ : Addr) ≠ q := fun o e => by rw [← e] at h1; simp at h1; omega
    rw [World.cell?_setCell_other _ _ _ _ (hne _), World.cell?_setCell_other _ _ _ _ (hne _), World.cell?_setCell_other _ _ _ _ (hne _), World.cell?_setCell_other _ _ _ _ (hne _)]
/-- what a call of node gives -/
def Grew (bs : List Nat) (f a : Nat) (w : World) (e : Ending) (w' : World) : Prop :=
  ∃ A' c', e = .returned (.tuple #[(growE bs f a).1.val A' c', .int .i64 ((growE bs f a).2 : Nat)]) ∧ RepP w' (fun b => w.heap.size ≤ b ∧ b < w'.heap.size) (growE bs f a).1 A' c' ∧ Below w.heap.size w w'
theorem grow_size (bs : List Nat) : ∀ f a, (growE bs f a).1.size ≤ 2 ^ (f + 1) - 1
  | 0, a => by
    rw [growE]
    show (leafN _).size ≤ 1
    unfold leafN
    repeat' split
    all_goals simp [Tm.size, Tm.sizes]
  | f + 1, a => by
    have h1 := grow_size bs f (a + 1)
    have h2 := grow_size bs f (growE bs f (a + 1)).2
    have e : 2 ^ (f + 1 + 1) = 2 ^ (f + 1) + 2 ^ (f + 1) := by rw [Nat.pow_succ 2 (f + 1)]; omega
    have hp : 1 ≤ 2 ^ (f + 1) := Nat.one_le_two_pow
    rw [growE]
    split
    · show (leafN _).size ≤ _
      unfold leafN
      repeat' split
      all_goals simp [Tm.size, Tm.sizes]; omega
    · split
      · simp only [Tm.size, Tm.sizes]; omega
      · simp only [Tm.size, Tm.sizes]; omega

set_option maxHeartbeats 1000000 in
set_option maxRecDepth 100000 in
theorem node_one (bs : List Nat) (A : Option Addr) (cap : Nat) (f a d : Nat) (w : World) (hf : f ≤ 4) (hd : d < 5) (ha : a ≤ 1000000) (hrep : RepU w (fun b => b < w.heap.size) bs A cap)
    (ih : ∀ (a' : Nat) (v u : Int) (W : World), v = a' → u = (d : Int) + 1 → a' ≤ a + 1 + (2 ^ (f + 1) - 1) → Below w.heap.size w W → Calls Tryd.prog 51 #[.slice A bs.length cap, .int .i64 v, .int .i64 u] W (Grew bs f a' W)) :
    Calls Tryd.prog 51 #[.slice A bs.length cap, .int .i64 a, .int .i64 d] w fun e w' => ∃ A' c', e = .returned (.tuple #[(growE bs (f + 1) a).1.val A' c', .int .i64 ((growE bs (f + 1) a).2 : Nat)]) ∧ RepP w' (fun b => w.heap.size ≤ b ∧ b < w'.heap.size) (growE bs (f + 1) a).1 A' c' ∧ Below w.heap.size w w' := by
  have mixed : Tryd.prog.follows .mixedOrders = true := by kernel_rfl
  have x0 := ex0
  have x1 := ex1
  have x2 := ex2
  have IH := Lib.hid ih; clear ih
  obtain ⟨h1, h2, h3, h4⟩ := hrep
  unfold maxLen at h2
  have i1 : (0 : Int) ≤ (a : Int) := Int.natCast_nonneg _
  have i3 : (0 : Int) ≤ (d : Int) := Int.natCast_nonneg _
  by_cases hlt : a < bs.length
  · have i2 : (a : Int) < (bs.length : Int) := by omega
    rcases h4 with rfl | ⟨b, off, rfl, hb, hc⟩
    · simp at hlt
    have c0 := hc a hlt
    have hE : growE bs (f + 1) a = if bs[a] % 8 < 6 then (leafN (bs[a] % 8), a + 1) else if bs[a] % 8 = 6 then (.mk 3 ⟨#[103]⟩ 0 [(growE bs f (a + 1)).1], (growE bs f (a + 1)).2)
        else (.mk 3 ⟨#[102]⟩ 0 [(growE bs f (a + 1)).1, (growE bs f (growE bs f (a + 1)).2).1], (growE bs f (growE bs f (a + 1)).2).2) := by rw [growE, getD_lt hlt]
    have hr : bs[a] % 8 < 8 := Nat.mod_lt _ (by decide)
    obtain ⟨r, hrr⟩ : ∃ r, r = bs[a] % 8 := ⟨_, rfl⟩
    rw [← hrr] at hE hr
    have m6 : (bs[a] : Int) % 8 = (r : Int) := by omega
    clear hrr hc h3
    match r, hr with
    | 0, _ =>
      have m6 : (bs[a] : Int) % 8 = 0 := m6
      replace hE : growE bs (f + 1) a = (leafN 0, a + 1) := by rw [hE, if_pos (by decide)]
      rw [hE]
      go_enter Tryd.func51, Tryd.ntmps51
      go_wp2_with fail
      refine (var_any _ _ _).mono ?_
      rintro e w1 ⟨rfl, hl1⟩
      have hz : w1.heap[w.heap.size]? = some (.cells #[.int .i64 0, .string ⟨#[]⟩, .int .i64 0, .slice none 0 0] 30 (0, 0)) := (hl1.below.block _ (by simp)).trans (heap_alloc_new _ _)
      obtain ⟨b0, b1, b2, b3, bf⟩ := box_at hz
      have HB1 := Lib.hid (below_then (below1 (Nat.le_refl _) _) hl1.below (by simp))
      have hs1 := hl1.size
      rw [World.size_alloc] at hs1
      clear hz hl1
      simp only [Tm.val, Tm.kind, Tm.name, Tm.sort, Tm.kids, List.length_nil]
      go_wp2_with fail
      refine bodyPost_ret (v := .tuple #[.agg #[.int .i64 1, .string ⟨#[120]⟩, .int .i64 0, .slice none 0 0], .int .i64 ((a + 1 : Nat) : Int)]) ?_ rfl ?_
      · simp [results, Tryd.results51, go_sem, b0, b1, b2, b3]
      refine ⟨none, 0, by simp [leafN, Tm.val, Tm.kind, Tm.name, Tm.sort, Tm.kids], rep_leaf _ _ _ (by decide), ?_⟩
      iterate 4 refine Below.setCell ?_ (by exact Nat.le_refl _) _
      exact HB1.out
    | 1, _ =>
      have m6 : (bs[a] : Int) % 8 = 1 := m6
      replace hE : growE bs (f + 1) a = (leafN 1, a + 1) := by rw [hE, if_pos (by decide)]
      rw [hE]
      go_enter Tryd.func51, Tryd.ntmps51
      go_wp2_with fail
      refine (var_any _ _ _).mono ?_
      rintro e w1 ⟨rfl, hl1⟩
      have hz : w1.heap[w.heap.size]? = some (.cells #[.int .i64 0, .string ⟨#[]⟩, .int .i64 0, .slice none 0 0] 30 (0, 0)) := (hl1.below.block _ (by simp)).trans (heap_alloc_new _ _)
      obtain ⟨b0, b1, b2, b3, bf⟩ := box_at hz
      have HB1 := Lib.hid (below_then (below1 (Nat.le_refl _) _) hl1.below (by simp))
      have hs1 := hl1.size
      rw [World.size_alloc] at hs1
      clear hz hl1
      simp only [Tm.val, Tm.kind, Tm.name, Tm.sort, Tm.kids, List.length_nil]
      go_wp2_with fail
      refine bodyPost_ret (v := .tuple #[.agg #[.int .i64 1, .string ⟨#[121]⟩, .int .i64 0, .slice none 0 0], .int .i64 ((a + 1 : Nat) : Int)]) ?_ rfl ?_
      · simp [results, Tryd.results51, go_sem, b0, b1, b2, b3]
      refine ⟨none, 0, by simp [leafN, Tm.val, Tm.kind, Tm.name, Tm.sort, Tm.kids], rep_leaf _ _ _ (by decide), ?_⟩
      iterate 4 refine Below.setCell ?_ (by exact Nat.le_refl _) _
      exact HB1.out
    | 2, _ =>
      have m6 : (bs[a] : Int) % 8 = 2 := m6
      replace hE : growE bs (f + 1) a = (leafN 2, a + 1) := by rw [hE, if_pos (by decide)]
      rw [hE]
      go_enter Tryd.func51, Tryd.ntmps51
      go_wp2_with fail
      refine (var_any _ _ _).mono ?_
      rintro e w1 ⟨rfl, hl1⟩
      have hz : w1.heap[w.heap.size]? = some (.cells #[.int .i64 0, .string ⟨#[]⟩, .int .i64 0, .slice none 0 0] 30 (0, 0)) := (hl1.below.block _ (by simp)).trans (heap_alloc_new _ _)
      obtain ⟨b0, b1, b2, b3, bf⟩ := box_at hz
      have HB1 := Lib.hid (below_then (below1 (Nat.le_refl _) _) hl1.below (by simp))
      have hs1 := hl1.size
      rw [World.size_alloc] at hs1
      clear hz hl1
      simp only [Tm.val, Tm.kind, Tm.name, Tm.sort, Tm.kids, List.length_nil]
      go_wp2_with fail
      refine bodyPost_ret (v := .tuple #[.agg #[.int .i64 1, .string ⟨#[122]⟩, .int .i64 0, .slice none 0 0], .int .i64 ((a + 1 : Nat) : Int)]) ?_ rfl ?_
      · simp [results, Tryd.results51, go_sem, b0, b1, b2, b3]
      refine ⟨none, 0, by simp [leafN, Tm.val, Tm.kind, Tm.name, Tm.sort, Tm.kids], rep_leaf _ _ _ (by decide), ?_⟩
      iterate 4 refine Below.setCell ?_ (by exact Nat.le_refl _) _
      exact HB1.out
    | 3, _ =>
      have m6 : (bs[a] : Int) % 8 = 3 := m6
      replace hE : growE bs (f + 1) a = (leafN 3, a + 1) := by rw [hE, if_pos (by decide)]
      rw [hE]
      go_enter Tryd.func51, Tryd.ntmps51
      go_wp2_with fail
      refine (atom_any _ _ _).mono ?_
      rintro e w1 ⟨rfl, hl1⟩
      have hz : w1.heap[w.heap.size]? = some (.cells #[.int .i64 0, .string ⟨#[]⟩, .int .i64 0, .slice none 0 0] 30 (0, 0)) := (hl1.below.block _ (by simp)).trans (heap_alloc_new _ _)
      obtain ⟨b0, b1, b2, b3, bf⟩ := box_at hz
      have HB1 := Lib.hid (below_then (below1 (Nat.le_refl _) _) hl1.below (by simp))
      have hs1 := hl1.size
      rw [World.size_alloc] at hs1
      clear hz hl1
      simp only [Tm.val, Tm.kind, Tm.name, Tm.sort, Tm.kids, List.length_nil]
      go_wp2_with fail
      refine bodyPost_ret (v := .tuple #[.agg #[.int .i64 2, .string ⟨#[97]⟩, .int .i64 0, .slice none 0 0], .int .i64 ((a + 1 : Nat) : Int)]) ?_ rfl ?_
      · simp [results, Tryd.results51, go_sem, b0, b1, b2, b3]
      refine ⟨none, 0, by simp [leafN, Tm.val, Tm.kind, Tm.name, Tm.sort, Tm.kids], rep_leaf _ _ _ (by decide), ?_⟩
      iterate 4 refine Below.setCell ?_ (by exact Nat.le_refl _) _
      exact HB1.out
    | 4, _ =>
      have m6 : (bs[a] : Int) % 8 = 4 := m6
      replace hE : growE bs (f + 1) a = (leafN 4, a + 1) := by rw [hE, if_pos (by decide)]
      rw [hE]
      go_enter Tryd.func51, Tryd.ntmps51
      go_wp2_with fail
      refine (var_any _ _ _).mono ?_
      rintro e w1 ⟨rfl, hl1⟩
      have hz : w1.heap[w.heap.size]? = some (.cells #[.int .i64 0, .string ⟨#[]⟩, .int .i64 0, .slice none 0 0] 30 (0, 0)) := (hl1.below.block _ (by simp)).trans (heap_alloc_new _ _)
      obtain ⟨b0, b1, b2, b3, bf⟩ := box_at hz
      have HB1 := Lib.hid (below_then (below1 (Nat.le_refl _) _) hl1.below (by simp))
      have hs1 := hl1.size
      rw [World.size_alloc] at hs1
      clear hz hl1
      simp only [Tm.val, Tm.kind, Tm.name, Tm.sort, Tm.kids, List.length_nil]
      go_wp2_with fail
      refine bodyPost_ret (v := .tuple #[.agg #[.int .i64 1, .string ⟨#[110]⟩, .int .i64 2, .slice none 0 0], .int .i64 ((a + 1 : Nat) : Int)]) ?_ rfl ?_
      · simp [results, Tryd.results51, go_sem, b0, b1, b2, b3]
      refine ⟨none, 0, by simp [leafN, Tm.val, Tm.kind, Tm.name, Tm.sort, Tm.kids], rep_leaf _ _ _ (by decide), ?_⟩
      iterate 4 refine Below.setCell ?_ (by exact Nat.le_refl _) _
      exact HB1.out
    | 5, _ =>
      have m6 : (bs[a] : Int) % 8 = 5 := m6
      replace hE : growE bs (f + 1) a = (leafN 5, a + 1) := by rw [hE, if_pos (by decide)]
      rw [hE]
      go_enter Tryd.func51, Tryd.ntmps51
      go_wp2_with fail
      refine (atom_any _ _ _).mono ?_
      rintro e w1 ⟨rfl, hl1⟩
      have hz : w1.heap[w.heap.size]? = some (.cells #[.int .i64 0, .string ⟨#[]⟩, .int .i64 0, .slice none 0 0] 30 (0, 0)) := (hl1.below.block _ (by simp)).trans (heap_alloc_new _ _)
      obtain ⟨b0, b1, b2, b3, bf⟩ := box_at hz
      have HB1 := Lib.hid (below_then (below1 (Nat.le_refl _) _) hl1.below (by simp))
      have hs1 := hl1.size
      rw [World.size_alloc] at hs1
      clear hz hl1
      simp only [Tm.val, Tm.kind, Tm.name, Tm.sort, Tm.kids, List.length_nil]
      go_wp2_with fail
      refine bodyPost_ret (v := .tuple #[.agg #[.int .i64 2, .string ⟨#[109]⟩, .int .i64 2, .slice none 0 0], .int .i64 ((a + 1 : Nat) : Int)]) ?_ rfl ?_
      · simp [results, Tryd.results51, go_sem, b0, b1, b2, b3]
      refine ⟨none, 0, by simp [leafN, Tm.val, Tm.kind, Tm.name, Tm.sort, Tm.kids], rep_leaf _ _ _ (by decide), ?_⟩
      iterate 4 refine Below.setCell ?_ (by exact Nat.le_refl _) _
      exact HB1.out
    | 6, _ =>
      have m6 : (bs[a] : Int) % 8 = 6 := m6
      replace hE : growE bs (f + 1) a = (.mk 3 ⟨#[103]⟩ 0 [(growE bs f (a + 1)).1], (growE bs f (a + 1)).2) := by rw [hE, if_neg (by decide), if_pos rfl]
      rw [hE]
      clear hE
      have h31 := grow_size bs f (a + 1)
      have CN := Lib.hid (IH.out (a + 1) ((a : Int) + 1) ((d : Int) + 1) (w.alloc (.cells #[.int .i64 0, .string ⟨#[]⟩, .int .i64 0, .slice none 0 0] 30)) (by push_cast; rfl) rfl (by omega) (below1 (Nat.le_refl _) _)); clear IH
      unfold Grew at CN
      generalize growE bs f (a + 1) = g1 at *
      obtain ⟨t1, n1⟩ := g1
      dsimp only at CN h31 ⊢
      go_enter Tryd.func51, Tryd.ntmps51
      go_wp2_with fail
      refine CN.out.mono ?_; clear CN
      rintro e w1 ⟨A1, c1, rfl, hr1, hb1⟩
      have hz : w1.heap[w.heap.size]? = some (.cells #[.int .i64 0, .string ⟨#[]⟩, .int .i64 0, .slice none 0 0] 30 (0, 0)) := (hb1.block _ (by simp)).trans (heap_alloc_new _ _)
      have hbw : Below w.heap.size w w1 := below_then (below1 (Nat.le_refl _) _) hb1 (by simp)
      have hs1 := hb1.size
      rw [World.size_alloc] at hs1
      obtain ⟨X, hX⟩ : ∃ X, X = w1.alloc (boxOf t1 A1 c1) := ⟨_, rfl⟩
      have hbX : Below w1.heap.size w1 X := by rw [hX]; exact below1 (Nat.le_refl _) _
      have hsX : X.heap.size = w1.heap.size + 1 := by rw [hX]; simp
      obtain ⟨Y, hY⟩ : ∃ Y, Y = X.alloc (.cells (itCells [(t1, A1, c1)]).toArray 30) := ⟨_, rfl⟩
      have hbY : Below X.heap.size X Y := by rw [hY]; exact below1 (Nat.le_refl _) _
      have hsY1 : Y.heap.size = X.heap.size + 1 := by rw [hY]; simp
      have hbXY := below_then hbX hbY hbX.size
      have hSY : RepS Y (fun b => w.heap.size + 1 ≤ b ∧ b < Y.heap.size) [t1] (some ⟨w1.heap.size + 1, 0, none⟩) 1 := by
        rw [← hsX]
        exact repS_cells [(t1, A1, c1)] (by rw [hY]; exact heap_alloc_new _ _) (by omega) (fun x hx => by
          simp only [List.mem_cons, List.not_mem_nil, or_false] at hx; subst hx
          exact RepP.mono (fun b ⟨g1, g2⟩ => ⟨by simpa using g1, by omega⟩) (fun p ⟨_, g2⟩ => hbXY.cell g2) _ _ _ hr1) (by simp)
      have AP := Lib.hid (app_fresh _ ⟨#[103]⟩ [t1] _ 1 Y (fun b hb => hb.2) (by decide) (by simp) (by simp) hSY); clear hSY
      have hzY := (hbXY.block w.heap.size (by omega)).trans hz
      have HBY := Lib.hid (below_then hbw hbXY hbw.size)
      have hsY := hbXY.size
      clear hz hbw hb1 hr1 hbX hbY hbXY
      have HZ := Lib.hid hzY; clear hzY
      rw [hX] at hY
      simp only [boxOf, itCells, Tm.cells, List.cons_append, List.nil_append] at hY
      clear hX
      have HY := Lib.hid hY; clear hY
      simp only [Tm.val] at AP ⊢
      go_wp2_with fail
      rw [← HY.out]
      refine AP.out.mono ?_; clear AP HY
      rintro e w2 ⟨A2, c2, rfl, hr2, hb2⟩
      obtain ⟨b0, b1, b2, b3, bf⟩ := box_at ((hb2.block _ (by omega)).trans HZ.out)
      have HB2 := Lib.hid (below_then HBY.out hb2 HBY.out.size)
      have hs2 := hb2.size
      have HR2 := Lib.hid hr2; clear hr2 hb2
      dsimp only [Tm.kind, Tm.name, Tm.sort, Tm.kids, List.length_cons, List.length_nil, Nat.zero_add]
      go_wp2_with fail
      refine bodyPost_ret (v := .tuple #[.agg #[.int .i64 3, .string ⟨#[103]⟩, .int .i64 0, .slice A2 1 c2], .int .i64 (n1 : Nat)]) ?_ rfl ?_
      · simp [results, Tryd.results51, go_sem, b0, b1, b2, b3]
      refine ⟨A2, c2, rfl, ?_, ?_⟩
      · exact fresh_set4 (RepP.mono (fun b h => by rcases h with ⟨g1, g2⟩ | ⟨g1, g2⟩ <;> omega) (fun _ _ => rfl) _ _ _ HR2.out)
      · iterate 4 refine Below.setCell ?_ (by exact Nat.le_refl _) _
        exact HB2.out
    | 7, _ =>
      have m6 : (bs[a] : Int) % 8 = 7 := m6
      replace hE : growE bs (f + 1) a = (.mk 3 ⟨#[102]⟩ 0 [(growE bs f (a + 1)).1, (growE bs f (growE bs f (a + 1)).2).1], (growE bs f (growE bs f (a + 1)).2).2) := by rw [hE, if_neg (by decide), if_neg (by decide)]
      rw [hE]
      clear hE
      have hnx := growE_next bs f (a + 1)
      have CN := Lib.hid (IH.out (a + 1) ((a : Int) + 1) ((d : Int) + 1) (w.alloc (.cells #[.int .i64 0, .string ⟨#[]⟩, .int .i64 0, .slice none 0 0] 30)) (by push_cast; rfl) rfl (by omega) (below1 (Nat.le_refl _) _))
      have CM : Hid (∀ W, Below w.heap.size w W → Calls Tryd.prog 51 #[.slice (some ⟨b, off, none⟩) bs.length cap, .int .i64 ((growE bs f (a + 1)).2 : Nat), .int .i64 ((d : Int) + 1)] W (Grew bs f (growE bs f (a + 1)).2 W)) := Lib.hid fun W h => IH.out _ _ _ W rfl rfl hnx h
      clear IH
      unfold Grew at CN CM
      have hn1 : (growE bs f (a + 1)).2 ≤ 2000000 := by have : 2 ^ (f + 1) ≤ 2 ^ 5 := Nat.pow_le_pow_right (by decide) (by omega); omega
      generalize growE bs f (a + 1) = g1 at *
      obtain ⟨t1, n1⟩ := g1
      dsimp only at CN CM hn1 ⊢
      generalize growE bs f n1 = g2 at *
      obtain ⟨t2, n2⟩ := g2
      dsimp only at CM ⊢
      go_enter Tryd.func51, Tryd.ntmps51
      go_wp2_with fail
      refine CN.out.mono ?_; clear CN
      rintro e w1 ⟨A1, c1, rfl, hr1, hb1⟩
      have hz : w1.heap[w.heap.size]? = some (.cells #[.int .i64 0, .string ⟨#[]⟩, .int .i64 0, .slice none 0 0] 30 (0, 0)) := (hb1.block _ (by simp)).trans (heap_alloc_new _ _)
      have hbw : Below w.heap.size w w1 := below_then (below1 (Nat.le_refl _) _) hb1 (by simp)
      have hs1 := hb1.size
      rw [World.size_alloc] at hs1
      obtain ⟨X, hX⟩ : ∃ X, X = w1.alloc (boxOf t1 A1 c1) := ⟨_, rfl⟩
      have hbX : Below w1.heap.size w1 X := by rw [hX]; exact below1 (Nat.le_refl _) _
      have hsX : X.heap.size = w1.heap.size + 1 := by rw [hX]; simp
      have hx1 : X.heap[w1.heap.size]? = some (boxOf t1 A1 c1) := by rw [hX]; exact heap_alloc_new _ _
      have hr1X : RepP X (fun b => w.heap.size + 1 ≤ b ∧ b < w1.heap.size) t1 A1 c1 := RepP.mono (fun b ⟨g1, g2⟩ => ⟨by simpa using g1, g2⟩) (fun p ⟨_, g2⟩ => hbX.cell g2) _ _ _ hr1
      have hzX := (hbX.block w.heap.size (by omega)).trans hz
      have HBX := Lib.hid (below_then hbw hbX hbw.size)
      clear hz hbw hb1 hr1 hbX
      have HZX := Lib.hid hzX; clear hzX
      have HR1 := Lib.hid hr1X; clear hr1X
      have HX1 := Lib.hid hx1; clear hx1
      have CM := Lib.hid (CM.out X HBX.out)
      simp only [boxOf] at hX
      have HX := Lib.hid hX; clear hX
      simp only [Tm.val]
      go_wp2_with fail
      rw [← HX.out]
      refine CM.out.mono ?_; clear CM HX
      rintro e w2 ⟨A2, c2, rfl, hr2, hb2⟩
      have hs2 := hb2.size
      obtain ⟨Z, hZ⟩ : ∃ Z, Z = w2.alloc (boxOf t2 A2 c2) := ⟨_, rfl⟩
      have hbZ : Below w2.heap.size w2 Z := by rw [hZ]; exact below1 (Nat.le_refl _) _
      have hsZ : Z.heap.size = w2.heap.size + 1 := by rw [hZ]; simp
      obtain ⟨Y, hY⟩ : ∃ Y, Y = Z.alloc (.cells (itCells [(t1, A1, c1), (t2, A2, c2)]).toArray 30) := ⟨_, rfl⟩
      have hbY : Below Z.heap.size Z Y := by rw [hY]; exact below1 (Nat.le_refl _) _
      have hsY1 : Y.heap.size = Z.heap.size + 1 := by rw [hY]; simp
      have hbZY := below_then hbZ hbY hbZ.size
      have hbXY := below_then hb2 hbZY hb2.size
      have hSY : RepS Y (fun b => w.heap.size + 1 ≤ b ∧ b < Y.heap.size) [t1, t2] (some ⟨w2.heap.size + 1, 0, none⟩) 2 := by
        rw [← hsZ]
        exact repS_cells [(t1, A1, c1), (t2, A2, c2)] (by rw [hY]; exact heap_alloc_new _ _) (by omega) (fun x hx => by
          simp only [List.mem_cons, List.not_mem_nil, or_false] at hx
          rcases hx with rfl | rfl
          · exact RepP.mono (fun b ⟨g1, g2⟩ => ⟨g1, by omega⟩) (fun p ⟨_, g2⟩ => hbXY.cell (by omega)) _ _ _ HR1.out
          · exact RepP.mono (fun b ⟨g1, g2⟩ => ⟨by omega, by omega⟩) (fun p ⟨_, g2⟩ => hbZY.cell g2) _ _ _ hr2) (by simp)
      have AP := Lib.hid (app_fresh _ ⟨#[102]⟩ [t1, t2] _ 2 Y (fun b hb => hb.2) (by decide) (by simp) (by simp) hSY); clear hSY
      have hzY := (hbXY.block w.heap.size (by omega)).trans HZX.out
      obtain ⟨p0, p1, p2, p3, -⟩ := box_at ((below_then hb2 hbZ hs2).block w1.heap.size (by omega) |>.trans HX1.out)
      have HBY := Lib.hid (below_then HBX.out hbXY HBX.out.size)
      have hsY := hbXY.size
      clear hr2 hb2 hbZ hbY hbZY hbXY HZX HX1 HR1
      have HZ := Lib.hid hzY; clear hzY
      rw [hZ] at hY p0 p1 p2 p3
      simp only [boxOf, itCells, Tm.cells, List.cons_append, List.nil_append] at hY p0 p1 p2 p3
      clear hZ
      have HY := Lib.hid hY; clear hY
      simp only [Tm.val] at AP ⊢
      go_wp2_with fail
      rw [← HY.out]
      refine AP.out.mono ?_; clear AP HY p0 p1 p2 p3
      rintro e w3 ⟨A3, c3, rfl, hr3, hb3⟩
      obtain ⟨b0, b1, b2, b3, bf⟩ := box_at ((hb3.block _ (by omega)).trans HZ.out)
      have HB3 := Lib.hid (below_then HBY.out hb3 HBY.out.size)
      have hs3 := hb3.size
      have HR3 := Lib.hid hr3; clear hr3 hb3
      dsimp only [Tm.kind, Tm.name, Tm.sort, Tm.kids, List.length_cons, List.length_nil, Nat.zero_add]
      go_wp2_with fail
      refine bodyPost_ret (v := .tuple #[.agg #[.int .i64 3, .string ⟨#[102]⟩, .int .i64 0, .slice A3 2 c3], .int .i64 (n2 : Nat)]) ?_ rfl ?_
      · simp [results, Tryd.results51, go_sem, b0, b1, b2, b3]
      refine ⟨A3, c3, rfl, ?_, ?_⟩
      · exact fresh_set4 (RepP.mono (fun b h => by rcases h with ⟨g1, g2⟩ | ⟨g1, g2⟩ <;> omega) (fun _ _ => rfl) _ _ _ HR3.out)
      · iterate 4 refine Below.setCell ?_ (by exact Nat.le_refl _) _
        exact HB3.out
  · have hE : growE bs (f + 1) a = (leafN 3, a + 1) := by rw [growE, getD_ge (by omega)]; rfl
    clear h3 h4
    rw [hE]
    go_enter Tryd.func51, Tryd.ntmps51
    go_wp2_with fail
    refine (atom_any _ _ _).mono ?_
    rintro e w1 ⟨rfl, hl1⟩
    have hz : w1.heap[w.heap.size]? = some (.cells #[.int .i64 0, .string ⟨#[]⟩, .int .i64 0, .slice none 0 0] 30 (0, 0)) := (hl1.below.block _ (by simp)).trans (heap_alloc_new _ _)
    obtain ⟨b0, b1, b2, b3, bf⟩ := box_at hz
    have HB1 := Lib.hid (below_then (below1 (Nat.le_refl _) _) hl1.below (by simp))
    have hs1 := hl1.size
    rw [World.size_alloc] at hs1
    clear hz hl1
    simp only [Tm.val, Tm.kind, Tm.name, Tm.sort, Tm.kids, List.length_nil]
    go_wp2_with fail
    refine bodyPost_ret (v := .tuple #[.agg #[.int .i64 2, .string ⟨#[97]⟩, .int .i64 0, .slice none 0 0], .int .i64 ((a + 1 : Nat) : Int)]) ?_ rfl ?_
    · simp [results, Tryd.results51, go_sem, b0, b1, b2, b3]
    refine ⟨none, 0, by simp [leafN, Tm.val, Tm.kind, Tm.name, Tm.sort, Tm.kids], rep_leaf _ _ _ (by decide), ?_⟩
    iterate 4 refine Below.setCell ?_ (by exact Nat.le_refl _) _
    exact HB1.out
end Go.Proofs.YtkbkgiihgghbeaaDoor
