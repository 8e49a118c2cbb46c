/- term.At, and the document's. -/
import Derived.Test.YtbgkabgbgbebaaaDoorRpos
import Derived.Test.YtbgkabgbgbebaaaDoorCompareLaw
import Derived.Test.YtbgkabgbgbebaaaDoorMix
import Derived.BigQuiet
namespace Go.Proofs.YtbgkabgbgbebaaaDoor
open Go.RowKit

/-- the kid at a number -/
def Tm.kid (t : Tm) (i : Int) : Option Tm := if 0 ≤ i then t.kids[i.toNat]? else none
/-- the subterm at a position -/
def Tm.atP : List Int → Tm → Option Tm
  | [], t => some t
  | i :: r, t => match t.kid i with
    | some u => Tm.atP r u
    | none => none
theorem Tm.kid_some {t : Tm} {i : Int} (h0 : 0 ≤ i) (h1 : i < (t.kids.length : Int)) : t.kid i = some (t.kids[i.toNat]'(by omega)) := by
  unfold Tm.kid; rw [if_pos h0]; exact List.getElem?_eq_getElem _
theorem Tm.kid_none {t : Tm} {i : Int} (h : i < 0 ∨ (t.kids.length : Int) ≤ i) : t.kid i = none := by
  unfold Tm.kid; split
  · exact List.getElem?_eq_none (by omega)
  · rfl
/-- a slice of ints, or none -/
def RepI (w : World) (P : Nat → Prop) (p : List Int) (A : Option Addr) (cap : Nat) : Prop :=
  p.length ≤ cap ∧ cap ≤ maxLen ∧ (p = [] ∨ ∃ b off, A = some ⟨b, off, none⟩ ∧ P b ∧ ∀ j, (h : j < p.length) → w.cell? ⟨b, off + j, none⟩ = some (.int .i64 p[j]))
theorem RepI.mono {w w' : World} {P P' : Nat → Prop} (hP : ∀ b, P b → P' b) (hc : ∀ q : Addr, P q.block → w'.cell? q = w.cell? q) {p : List Int} {A : Option Addr} {cap : Nat} (h : RepI w P p A cap) : RepI w' P' p A cap := by
  obtain ⟨h1, h2, h3⟩ := h
  refine ⟨h1, h2, ?_⟩
  rcases h3 with h3 | ⟨b, off, hA, hb, hl⟩
  · exact .inl h3
  · exact .inr ⟨b, off, hA, hP b hb, fun j hj => by rw [hc _ hb]; exact hl j hj⟩
theorem RepI.go {w w' : World} {B B' : Nat} {p : List Int} {A : Option Addr} {cap : Nat} (h : RepI w (fun b => b < B) p A cap) (hb : Below B w w') (hB : B ≤ B') : RepI w' (fun b => b < B') p A cap :=
  h.mono (fun _ h => Nat.lt_of_lt_of_le h hB) (fun _ hq => hb.cell hq)
theorem IRep.toI {w : World} {P : Nat → Prop} {p : List Int} {A : Option Addr} {cap : Nat} (h : IRep w P p A cap) : RepI w P p A cap := by
  obtain ⟨b, off, h1, h2, h3, h4, h5⟩ := h
  exact ⟨h3, h4, .inr ⟨b, off, h1, h2, fun j hj => h5 j _ (by simp [ints, hj])⟩⟩
theorem heap_set4 {W : World} {B : Nat} {a b c d x y z u : Value} {T : TypeId} (h : W.heap[B]? = some (.cells #[a, b, c, d] T (0, 0))) :
    ((((W.setCell ⟨B, 0, none⟩ x).setCell ⟨B, 1, none⟩ y).setCell ⟨B, 2, none⟩ z).setCell ⟨B, 3, none⟩ u).heap[B]? = some (.cells #[x, y, z, u] T (0, 0)) := by
  simp [World.setCell, Array.getElem?_modify, h]
theorem heap_set4_other {W : World} {B b : Nat} {x y z u : Value} (hb : b ≠ B) :
    ((((W.setCell ⟨B, 0, none⟩ x).setCell ⟨B, 1, none⟩ y).setCell ⟨B, 2, none⟩ z).setCell ⟨B, 3, none⟩ u).heap[b]? = W.heap[b]? := by
  have : B ≠ b := fun e => hb e.symm
  simp [World.setCell, Array.getElem?_modify, this]
theorem below_set4 {B C : Nat} {w W : World} {x y z u : Value} (h : Below C w W) (hB : C ≤ B) : Below C w ((((W.setCell ⟨B, 0, none⟩ x).setCell ⟨B, 1, none⟩ y).setCell ⟨B, 2, none⟩ z).setCell ⟨B, 3, none⟩ u) :=
  (((h.setCell hB x).setCell hB y).setCell hB z).setCell hB u

/-- What At returns: new memory, or the error. -/
def AtOf (w : World) (r : Option Tm) (e : Ending) (w' : World) : Prop :=
  Below w.heap.size w w' ∧ match r with
    | none => e = .returned (.tuple #[.agg #[.int .i64 0, .string ⟨#[]⟩, .int .i64 0, .slice none 0 0], .int .i64 7])
    | some u => ∃ A c, e = .returned (.tuple #[u.val A c, .int .i64 0]) ∧ RepP w' (fun b => w.heap.size ≤ b ∧ b < w'.heap.size) u A c

/-- The loop's state: the box holds the term so far; its kids lie in old memory. -/
structure AtRel (w : World) (u : Tm) (A : Option Addr) (c : Nat) (wr : World) : Prop where
  box : wr.heap[w.heap.size]? = some (boxOf u A c)
  out : wr.heap[w.heap.size + 1]? = some (boxOf (.mk 0 ⟨#[]⟩ 0 []) none 0)
  rep : RepT wr w.heap.size u A c
  below : Below w.heap.size w wr
theorem AtRel.set {w wr : World} {u v : Tm} {A A' : Option Addr} {c c' : Nat} (h : AtRel w u A c wr) (hr : RepT wr w.heap.size v A' c') :
    AtRel w v A' c' ((((wr.setCell ⟨w.heap.size, 0, none⟩ (.int .i64 v.kind)).setCell ⟨w.heap.size, 1, none⟩ (.string v.name)).setCell ⟨w.heap.size, 2, none⟩ (.int .i64 v.sort)).setCell ⟨w.heap.size, 3, none⟩ (.slice A' v.kids.length c')) := by
  have hb : Below w.heap.size wr ((((wr.setCell ⟨w.heap.size, 0, none⟩ (.int .i64 v.kind)).setCell ⟨w.heap.size, 1, none⟩ (.string v.name)).setCell ⟨w.heap.size, 2, none⟩ (.int .i64 v.sort)).setCell ⟨w.heap.size, 3, none⟩ (.slice A' v.kids.length c')) := below_set4 (Below.refl _ _) (Nat.le_refl _)
  exact ⟨heap_set4 h.box, by rw [heap_set4_other (by omega)]; exact h.out, RepP.mono (fun _ h => h) (fun q hq => hb.cell hq) _ _ _ hr, h.below.trans hb⟩
theorem AtRel.start {w : World} {t : Tm} {A : Option Addr} {c : Nat} (h : RepT w w.heap.size t A c) : AtRel w t A c ((w.alloc (boxOf t A c)).alloc (boxOf (.mk 0 ⟨#[]⟩ 0 []) none 0)) := by
  have hb1 : Below w.heap.size w (w.alloc (boxOf t A c)) := below1 (Nat.le_refl _) _
  have hb2 : Below w.heap.size w ((w.alloc (boxOf t A c)).alloc (boxOf (.mk 0 ⟨#[]⟩ 0 []) none 0)) := hb1.alloc (by simp) _
  refine ⟨?_, ?_, RepP.mono (fun _ h => h) (fun q hq => hb2.cell hq) _ _ _ h, hb2⟩
  · rw [Below.heap_alloc _ _ _ (by simp)]; exact heap_alloc_new _ _
  · have := heap_alloc_new (w.alloc (boxOf t A c)) (boxOf (.mk 0 ⟨#[]⟩ 0 []) none 0)
    rwa [World.size_alloc] at this
theorem Tm.at_drop {p : List Int} {k : Nat} (h : k < p.length) (u : Tm) : Tm.atP (p.drop k) u = match u.kid p[k] with
    | some v => Tm.atP (p.drop (k + 1)) v
    | none => none := by
  rw [List.drop_eq_getElem_cons h, Tm.atP]

set_option maxHeartbeats 2000000 in
set_option maxRecDepth 100000 in
theorem at_any (t : Tm) (A : Option Addr) (cap : Nat) (p : List Int) (Ap : Option Addr) (cp : Nat) (w : World) (ht : t.size ≤ 1000000) (hp : p.length ≤ 1000000) (hrep : RepT w w.heap.size t A cap) (hrp : RepI w (fun b => b < w.heap.size) p Ap cp) :
    Calls Tryd.prog 23 #[t.val A cap, .slice Ap p.length cp] w (AtOf w (Tm.atP p t)) := by
  have hst := AtRel.start hrep
  simp only [boxOf, Tm.kind, Tm.name, Tm.sort, Tm.kids, List.length_nil] at hst
  have HST := Lib.hid hst; clear hst hrep
  have HRP := Lib.hid hrp; clear hrp
  have HT := Lib.hid ht; clear ht
  simp only [Tm.val]
  go_enter Tryd.func23, Tryd.ntmps23
  go_wp2_with fail
  go_loopw [10] (fun i wr => ∃ (k : Nat) (u : Tm) (A' : Option Addr) (c' : Nat), k ≤ p.length ∧ i = .int .i64 k ∧ Hid (AtRel w u A' c' wr) ∧ Hid (Tm.atP p t = Tm.atP (p.drop k) u) ∧ Hid (u.size ≤ 1000000)) (fun i _ => p.length - (intOf i).toNat)
  case atStart => exact ⟨0, t, A, cap, Nat.zero_le _, rfl, HST.out, rfl, HT⟩
  case round =>
    obtain ⟨k, u, A', c', hk, rfl, HR, HE, HU⟩ := hrel
    clear HST HT
    obtain ⟨a0, a1, a2, a3, a4⟩ := box_at HR.out.box
    obtain ⟨r0, r1, r2, r3, r4⟩ := box_at HR.out.out
    simp only [Tm.kind, Tm.name, Tm.sort, Tm.kids, List.length_nil] at r0 r1 r2 r3
    have i1 : (0 : Int) ≤ (k : Int) := Int.natCast_nonneg _
    by_cases hlt : k < p.length
    · have i2 : (k : Int) < (p.length : Int) := by omega
      obtain ⟨-, -, hpc⟩ := HRP.out.go HR.out.below (Nat.le_refl _)
      rcases hpc with rfl | ⟨bp, offp, rfl, hbp, hpl⟩
      · simp at hlt
      have hx := hpl k hlt
      have he := Tm.at_drop hlt u
      obtain ⟨x, hxe⟩ : ∃ x, x = p[k] := ⟨_, rfl⟩
      rw [← hxe] at hx he
      clear hxe hpl
      have hl1 : w.heap.size + 1 < wr.heap.size := (Array.getElem?_eq_some_iff.1 HR.out.out).1
      by_cases hx0 : x < 0
      · have hn := Tm.kid_none (t := u) (.inl hx0)
        have hres : Tm.atP p t = none := by rw [HE.out, he, hn]
        have HRES := Lib.hid hres; clear hres hn he
        have d1 : decide (x < 0) = true := decide_eq_true hx0
        go_wp2_with fail
        refine bodyPost_ret (v := .tuple #[.agg #[.int .i64 0, .string ⟨#[]⟩, .int .i64 0, .slice none 0 0], .int .i64 7]) ?_ rfl ?_
        · simp [results, Tryd.results23, go_sem, r0, r1, r2, r3]
        unfold AtOf
        rw [HRES.out]
        exact ⟨below_set4 HR.out.below (by omega), rfl⟩
      · have d1 : decide (x < 0) = false := decide_eq_false hx0
        by_cases hx1 : (u.kids.length : Int) ≤ x
        · have hn := Tm.kid_none (t := u) (.inr hx1)
          have hres : Tm.atP p t = none := by rw [HE.out, he, hn]
          have HRES := Lib.hid hres; clear hres hn he
          have d2 : decide ((u.kids.length : Int) ≤ x) = true := decide_eq_true hx1
          go_wp2_with fail
          refine bodyPost_ret (v := .tuple #[.agg #[.int .i64 0, .string ⟨#[]⟩, .int .i64 0, .slice none 0 0], .int .i64 7]) ?_ rfl ?_
          · simp [results, Tryd.results23, go_sem, r0, r1, r2, r3]
          unfold AtOf
          rw [HRES.out]
          exact ⟨below_set4 HR.out.below (by omega), rfl⟩
        · have d2 : decide ((u.kids.length : Int) ≤ x) = false := decide_eq_false hx1
          have hxl : x.toNat < u.kids.length := by omega
          have hn := Tm.kid_some (t := u) (i := x) (by omega) (by omega)
          obtain ⟨-, -, hkids⟩ := HR.out.rep.kids
          rcases hkids with h0 | ⟨bk, off, rfl, hbk, hl⟩
          · rw [h0] at hxl; simp at hxl
          obtain ⟨C, ck, e0, e1, e2, e3, e5⟩ := hl.get x.toNat hxl
          have hvs : u.kids[x.toNat].size ≤ 1000000 := by have := Tm.kid_size (List.getElem_mem hxl); have := HU.out; omega
          rw [hn] at he
          obtain ⟨v, hv⟩ : ∃ v, v = u.kids[x.toNat] := ⟨_, rfl⟩
          rw [← hv] at e0 e1 e2 e3 e5 hvs he
          have hres : Tm.atP p t = Tm.atP (p.drop (k + 1)) v := by rw [HE.out, he]
          have HRES := Lib.hid hres; clear hres hn he hv hl
          have x0 : 0 ≤ x := by omega
          have x1 : x < (u.kids.length : Int) := by omega
          have HVS := Lib.hid hvs; clear hvs
          have HNEW := Lib.hid (HR.out.set e5); clear e5
          have hl2 : bk < wr.heap.size := by have := HR.out.below.size; omega
          go_wp2_with fail
          go_roundw
          case rel => exact ⟨k + 1, v, C, ck, by omega, by go_num, HNEW.out, HRES.out, HVS⟩
          case measure => simp [intOf]; omega
    · obtain rfl : k = p.length := by omega
      have hres : Tm.atP p t = some u := by rw [HE.out, List.drop_length, Tm.atP]
      have HRES := Lib.hid hres; clear hres
      have CL := Lib.hid (clone_any 1000000 u A' c' wr HU.out (by decide) (HR.out.rep.go (Below.refl _ _) HR.out.below.size))
      simp only [Tm.val] at CL
      go_wp2_with fail
      refine CL.out.mono ?_
      rintro e w1 ⟨A1, c1, rfl, hr1, hb1⟩
      have hl1 : w.heap.size + 1 < wr.heap.size := (Array.getElem?_eq_some_iff.1 HR.out.out).1
      have hl2 : w.heap.size + 1 < w1.heap.size := by have := hb1.size; omega
      have hout : w1.heap[w.heap.size + 1]? = some (boxOf (.mk 0 ⟨#[]⟩ 0 []) none 0) := (hb1.block _ hl1).trans HR.out.out
      have hbw := HR.out.below.trans (hb1.mono HR.out.below.size)
      clear r0 r1 r2 r3 r4 a0 a1 a2 a3 a4
      obtain ⟨r0, r1, r2, r3, r4⟩ := box_at hout
      simp only [Tm.kind, Tm.name, Tm.sort, Tm.kids, List.length_nil] at r0 r1 r2 r3
      have HOUT := Lib.hid hout; clear hout
      have HR1 := Lib.hid hr1; clear hr1
      have HBW := Lib.hid hbw; clear hbw
      have HB1 := Lib.hid hb1; clear hb1
      clear CL
      go_wp2_with fail
      refine bodyPost_ret (v := .tuple #[.agg #[.int .i64 u.kind, .string u.name, .int .i64 u.sort, .slice A1 u.kids.length c1], .int .i64 0]) ?_ rfl ?_
      · simp [results, Tryd.results23, go_sem, r0, r1, r2, r3]
      unfold AtOf
      rw [HRES.out]
      refine ⟨below_set4 HBW.out (by omega), A1, c1, rfl, ?_⟩
      have hws := HR.out.below.size
      exact RepP.mono (fun b ⟨h1, h2⟩ => ⟨by omega, by simpa [World.setCell] using h2⟩) (fun q ⟨h1, _⟩ => World.cell?_of_block (heap_set4_other (by omega))) _ _ _ HR1.out

/-- What the document's At returns: the subterm itself, or the error. -/
def RatOf (w : World) (r : Option Tm) (e : Ending) (w' : World) : Prop :=
  Below w.heap.size w w' ∧ match r with
    | none => e = .returned (.tuple #[.agg #[.int .i64 0, .string ⟨#[]⟩, .int .i64 0, .slice none 0 0], .int .i64 7])
    | some u => ∃ A c, e = .returned (.tuple #[u.val A c, .int .i64 0]) ∧ RepT w' w.heap.size u A c

theorem RepT.drewN {w : World} {B : Nat} {u : Tm} {A : Option Addr} {c : Nat} (h : RepT w B u A c) (n : Nat) : RepT (w.drewN n) B u A c :=
  RepP.mono (w := w) (w' := w.drewN n) (P := fun b => b < B) (fun _ h => h) (fun _ _ => rfl) _ _ _ h
theorem AtRel.drewN {w wr : World} {u : Tm} {A : Option Addr} {c : Nat} (h : AtRel w u A c wr) (n : Nat) : AtRel w u A c (wr.drewN n) :=
  ⟨h.box, h.out, h.rep.drewN n, h.below.trans ((Lay.refl _ _).drewN n).below⟩

set_option maxHeartbeats 2000000 in
set_option maxRecDepth 100000 in
theorem rat_any (t : Tm) (A : Option Addr) (cap : Nat) (p : List Int) (Ap : Option Addr) (cp : Nat) (w : World) (ht : t.size ≤ 1000000) (hp : p.length ≤ 1000000) (hrep : RepT w w.heap.size t A cap) (hrp : RepI w (fun b => b < w.heap.size) p Ap cp) :
    Calls Tryd.prog 36 #[t.val A cap, .slice Ap p.length cp] w (RatOf w (Tm.atP p t)) := by
  have mixed : Tryd.prog.follows .mixedOrders = true := by kernel_rfl
  have hst := AtRel.start hrep
  simp only [boxOf, Tm.kind, Tm.name, Tm.sort, Tm.kids, List.length_nil] at hst
  have HST := Lib.hid hst; clear hst hrep
  have HRP := Lib.hid hrp; clear hrp
  have HT := Lib.hid ht; clear ht
  simp only [Tm.val]
  go_enter Tryd.func36, Tryd.ntmps36
  go_wp2_with fail
  go_loopw [6] (fun i wr => ∃ (k : Nat) (u : Tm) (A' : Option Addr) (c' : Nat), k ≤ p.length ∧ i = .int .i64 k ∧ Hid (AtRel w u A' c' wr) ∧ Hid (Tm.atP p t = Tm.atP (p.drop k) u) ∧ Hid (u.size ≤ 1000000)) (fun i _ => p.length - (intOf i).toNat)
  case atStart => exact ⟨0, t, A, cap, Nat.zero_le _, rfl, HST.out, rfl, HT⟩
  case round =>
    obtain ⟨k, u, A', c', hk, rfl, HR, HE, HU⟩ := hrel
    clear HST HT
    obtain ⟨a0, a1, a2, a3, a4⟩ := box_at HR.out.box
    obtain ⟨r0, r1, r2, r3, r4⟩ := box_at HR.out.out
    simp only [Tm.kind, Tm.name, Tm.sort, Tm.kids, List.length_nil] at r0 r1 r2 r3
    have i1 : (0 : Int) ≤ (k : Int) := Int.natCast_nonneg _
    by_cases hlt : k < p.length
    · have i2 : (k : Int) < (p.length : Int) := by omega
      obtain ⟨-, -, hpc⟩ := HRP.out.go HR.out.below (Nat.le_refl _)
      rcases hpc with rfl | ⟨bp, offp, rfl, hbp, hpl⟩
      · simp at hlt
      have hx := hpl k hlt
      have he := Tm.at_drop hlt u
      obtain ⟨x, hxe⟩ : ∃ x, x = p[k] := ⟨_, rfl⟩
      rw [← hxe] at hx he
      clear hxe hpl
      have hl1 : w.heap.size + 1 < wr.heap.size := (Array.getElem?_eq_some_iff.1 HR.out.out).1
      by_cases hx0 : x < 0
      · have hn := Tm.kid_none (t := u) (.inl hx0)
        have hres : Tm.atP p t = none := by rw [HE.out, he, hn]
        have HRES := Lib.hid hres; clear hres hn he
        have d1 : decide (x < 0) = true := decide_eq_true hx0
        go_wp2_with fail
        go_quiet (fail)
        go_wp2_with fail
        refine bodyPost_ret (v := .tuple #[.agg #[.int .i64 0, .string ⟨#[]⟩, .int .i64 0, .slice none 0 0], .int .i64 7]) ?_ rfl ?_
        · simp [results, Tryd.results36, go_sem, r0, r1, r2, r3]
        unfold RatOf
        rw [HRES.out]
        exact ⟨below_set4 (HR.out.below.trans ((Lay.refl _ _).drewN nq).below) (by omega), rfl⟩
      · have d1 : decide (x < 0) = false := decide_eq_false hx0
        by_cases hx1 : (u.kids.length : Int) ≤ x
        · have hn := Tm.kid_none (t := u) (.inr hx1)
          have hres : Tm.atP p t = none := by rw [HE.out, he, hn]
          have HRES := Lib.hid hres; clear hres hn he
          have d2 : decide ((u.kids.length : Int) ≤ x) = true := decide_eq_true hx1
          go_wp2_with fail
          go_quiet (fail)
          go_wp2_with fail
          refine bodyPost_ret (v := .tuple #[.agg #[.int .i64 0, .string ⟨#[]⟩, .int .i64 0, .slice none 0 0], .int .i64 7]) ?_ rfl ?_
          · simp [results, Tryd.results36, go_sem, r0, r1, r2, r3]
          unfold RatOf
          rw [HRES.out]
          exact ⟨below_set4 (HR.out.below.trans ((Lay.refl _ _).drewN nq).below) (by omega), rfl⟩
        · have d2 : decide ((u.kids.length : Int) ≤ x) = false := decide_eq_false hx1
          have hxl : x.toNat < u.kids.length := by omega
          have hn := Tm.kid_some (t := u) (i := x) (by omega) (by omega)
          obtain ⟨-, -, hkids⟩ := HR.out.rep.kids
          rcases hkids with h0 | ⟨bk, off, rfl, hbk, hl⟩
          · rw [h0] at hxl; simp at hxl
          obtain ⟨C, ck, e0, e1, e2, e3, e5⟩ := hl.get x.toNat hxl
          have hvs : u.kids[x.toNat].size ≤ 1000000 := by have := Tm.kid_size (List.getElem_mem hxl); have := HU.out; omega
          rw [hn] at he
          obtain ⟨v, hv⟩ : ∃ v, v = u.kids[x.toNat] := ⟨_, rfl⟩
          rw [← hv] at e0 e1 e2 e3 e5 hvs he
          have hres : Tm.atP p t = Tm.atP (p.drop (k + 1)) v := by rw [HE.out, he]
          have HRES := Lib.hid hres; clear hres hn he hv hl
          have x0 : 0 ≤ x := by omega
          have x1 : x < (u.kids.length : Int) := by omega
          have HVS := Lib.hid hvs; clear hvs
          have hl2 : bk < wr.heap.size := by have := HR.out.below.size; omega
          go_wp2_with fail
          go_quiet (fail)
          go_wp2_with fail
          have HRZ : AtRel w u (some ⟨bk, off, none⟩) c' (wr.drewN nq) := HR.out.drewN nq
          have hx' : (wr.drewN nq).cell? ⟨bp, offp + k, none⟩ = some (.int .i64 x) := hx
          have z0 : (wr.drewN nq).cell? ⟨bk, off + x.toNat * 4, none⟩ = some (.int .i64 v.kind) := e0
          have z1 : (wr.drewN nq).cell? ⟨bk, off + x.toNat * 4 + 1, none⟩ = some (.string v.name) := e1
          have z2 : (wr.drewN nq).cell? ⟨bk, off + x.toNat * 4 + 2, none⟩ = some (.int .i64 v.sort) := e2
          have z3 : (wr.drewN nq).cell? ⟨bk, off + x.toNat * 4 + 3, none⟩ = some (.slice C v.kids.length ck) := e3
          have z5 : RepT (wr.drewN nq) w.heap.size v C ck := e5.drewN nq
          clear e0 e1 e2 e3 e5 hx HR a0 a1 a2 a3 a4 r0 r1 r2 r3 r4 hl1 hl2
          generalize wr.drewN nq = Z at *
          have HNEW := Lib.hid ((HRZ.drewN 1).set (v := v) (A' := C) (c' := ck) (z5.drewN 1)); clear z5
          obtain ⟨a0, a1, a2, a3, a4⟩ := box_at HRZ.box
          have HRZ := Lib.hid HRZ
          refine wp_region_mix (fun Y => Y = Z.drew) 8 (.held 0 (.held 1 (.held 2 (.held 3 (.held 4 (.held 5 (.held 6 (.held 7 (.op 8 .nil))))))))) mixed (by kernel_rfl) ?_
          refine mix_take (v := .pointer (some ⟨w.heap.size, 3, none⟩)) rfl rfl (fun _ _ _ h => h) rfl (fun Y hY => by subst hY; (try simp only [Act.put]); go_simp) ?_
          refine mix_take (v := .slice (some ⟨bk, off, none⟩) u.kids.length c') rfl rfl (fun _ _ _ h => h) rfl (fun Y hY => by subst hY; (try simp only [Act.put]); go_simp) ?_
          refine mix_take (v := .slice (some ⟨bp, offp, none⟩) p.length cp) rfl rfl (fun _ _ _ h => h) rfl (fun Y hY => by subst hY; (try simp only [Act.put]); go_simp) ?_
          refine mix_take (v := .int .i64 k) rfl rfl (fun _ _ _ h => h) rfl (fun Y hY => by subst hY; (try simp only [Act.put]); go_simp) ?_
          refine mix_take (v := .pointer (some ⟨bp, offp + k, none⟩)) rfl rfl (fun _ _ _ h => h) rfl (fun Y hY => by subst hY; (try simp only [Act.put]); go_simp) ?_
          refine mix_take (v := .int .i64 x) rfl rfl (fun _ _ _ h => h) rfl (fun Y hY => by subst hY; (try simp only [Act.put]); go_simp) ?_
          refine mix_take (v := .pointer (some ⟨bk, off + x.toNat * 4, none⟩)) rfl rfl (fun _ _ _ h => h) rfl (fun Y hY => by subst hY; (try simp only [Act.put]); go_simp) ?_
          refine mix_take (v := .agg #[.int .i64 v.kind, .string v.name, .int .i64 v.sort, .slice C v.kids.length ck]) rfl rfl (fun _ _ _ h => h) rfl (fun Y hY => by subst hY; (try simp only [Act.put]); go_simp) ?_
          simp only [Act.put, List.setIfInBounds_toArray]
          refine mix_op rfl rfl (fun K hK => ?_)
          go_wp2_with fail
          refine ⟨fun h => absurd h (by decide), mix_nil ?_⟩
          go_wp2_with fail
          go_roundw
          case rel => exact ⟨k + 1, v, C, ck, by omega, by go_num, HNEW.out, HRES.out, HVS⟩
          case measure => simp [intOf]; omega
    · obtain rfl : k = p.length := by omega
      have hres : Tm.atP p t = some u := by rw [HE.out, List.drop_length, Tm.atP]
      have HRES := Lib.hid hres; clear hres
      have hl1 : w.heap.size + 1 < wr.heap.size := (Array.getElem?_eq_some_iff.1 HR.out.out).1
      go_wp2_with fail
      refine bodyPost_ret (v := .tuple #[.agg #[.int .i64 u.kind, .string u.name, .int .i64 u.sort, .slice A' u.kids.length c'], .int .i64 0]) ?_ rfl ?_
      · simp [results, Tryd.results36, go_sem, r0, r1, r2, r3]
      unfold RatOf
      rw [HRES.out]
      have hb := below_set4 (x := .int .i64 u.kind) (y := .string u.name) (z := .int .i64 u.sort) (u := .slice A' u.kids.length c') (Below.refl w.heap.size wr) (show w.heap.size ≤ w.heap.size + 1 by omega)
      exact ⟨HR.out.below.trans hb, A', c', rfl, RepP.mono (fun _ h => h) (fun q hq => hb.cell hq) _ _ _ HR.out.rep⟩
end Go.Proofs.YtbgkabgbgbebaaaDoor
