/- The guards and comparisons of the reference: Few, One, Same, Lists; App and Atom. -/
import Derived.Test.YtbgkabgbgbebaaaDoorMore
import Derived.Test.YtbgkabgbgbebaaaDoorDepth
import Derived.Test.YtbgkabgbgbebaaaDoorRcompare
import Derived.Test.YtbgkabgbgbebaaaDoorCompact
import Derived.WalkSpells
namespace Go.Proofs.YtbgkabgbgbebaaaDoor
open Go.RowKit Go.Sort

theorem RepS.below {w w' : World} {B : Nat} {l : List Tm} {A : Option Addr} {cap : Nat} (h : RepS w (fun b => b < B) l A cap) (hb : Below B w w') : RepS w' (fun b => b < B) l A cap :=
  RepS.mono (fun _ h => h) (fun _ hp => hb.cell hp) h
theorem RepS.up {w : World} {B B' : Nat} {l : List Tm} {A : Option Addr} {cap : Nat} (h : RepS w (fun b => b < B) l A cap) (hb : B ≤ B') : RepS w (fun b => b < B') l A cap :=
  RepS.mono (fun _ h => by omega) (fun _ _ => rfl) h

set_option maxHeartbeats 1600000 in
theorem few_any (l : List Tm) (A : Option Addr) (cap : Nat) (n : Int) (m : Int) (w : World) (hm0 : 0 ≤ m) (hm1 : m ≤ 1000000) (hrep : RepS w (fun b => b < w.heap.size) l A cap) :
    Calls Tryd.prog 17 #[.slice A l.length cap, .int .i64 n, .int .i64 m] w fun e w' => e = .returned (.bool (decide ((l.length : Int) ≤ n ∧ 0 ≤ Tm.lefts l m))) ∧ Lay w.heap.size w w' := by
  obtain ⟨hr1, hr2, hr4⟩ := hrep
  unfold maxLen at hr2
  by_cases hn : n < (l.length : Int)
  · have e : decide ((l.length : Int) ≤ n ∧ 0 ≤ Tm.lefts l m) = false := decide_eq_false (by omega)
    rw [e]
    go_enter Tryd.func17, Tryd.ntmps17
    go_wp2_with fail
    go_ret
    exact ⟨rfl, Lay.refl _ _⟩
  · have e : decide ((l.length : Int) ≤ n ∧ 0 ≤ Tm.lefts l m) = decide (0 ≤ Tm.lefts l m) := by congr 1; exact propext ⟨fun h => h.2, fun h => ⟨by omega, h⟩⟩
    rw [e]
    have hn2 : decide (n < (l.length : Int)) = false := decide_eq_false hn
    clear e
    go_enter Tryd.func17, Tryd.ntmps17
    go_wp2_with fail
    go_loopw [2, 7] (fun v i wr => ∃ (k : Nat) (j : Int), k ≤ l.length ∧ i = .int .i64 k ∧ v = .int .i64 j ∧ 0 ≤ j ∧ j ≤ m ∧ Hid (Tm.lefts (l.drop k) j = Tm.lefts l m) ∧ Lay w.heap.size w wr)
      (fun _ i _ => l.length - (intOf i).toNat)
    case atStart => exact ⟨0, m, Nat.zero_le _, rfl, rfl, by omega, by omega, rfl, Lay.refl _ _⟩
    case round =>
      obtain ⟨k, j, hk, rfl, rfl, hj0, hj1, HL, hbel⟩ := hrel
      by_cases hlt : k < l.length
      · rcases hr4 with rfl | ⟨b, off, rfl, hbB, hl⟩
        · simp at hlt
        obtain ⟨A', cap', h0, h1, h2, h3, h5⟩ := (RepL.below hl hbel.below hbB).get k hlt
        have HD : Hid (l.drop k = l[k] :: l.drop (k + 1)) := List.drop_eq_getElem_cons hlt
        have hll := Tm.left_le l[k] j
        have HU : Hid (Tm.lefts l m = if l[k].left j < 0 then -1 else Tm.lefts (l.drop (k + 1)) (l[k].left j)) := by
          rw [← HL.out, HD.out, Tm.lefts]; exact rfl
        have HC := Lib.hid (budget_any l[k].size l[k] A' cap' j wr (Nat.le_refl _) hj0 (by omega) (h5.go (Below.refl _ _) hbel.size))
        simp only [Tm.val] at HC
        by_cases hneg : l[k].left j < 0
        · have HE := Lib.hid (show decide (0 ≤ Tm.lefts l m) = false from decide_eq_false (by rw [HU.out, if_pos hneg]; omega))
          go_wp2_with fail
          refine HC.out.mono ?_
          rintro e w1 ⟨rfl, hb1⟩
          go_wp2_with fail
          go_ret
          exact ⟨by rw [HE.out]; rfl, hbel.trans (hb1.mono hbel.size)⟩
        · go_wp2_with fail
          refine HC.out.mono ?_
          rintro e w1 ⟨rfl, hb1⟩
          go_wp2_with fail
          go_roundw
          case rel => exact ⟨k + 1, _, by omega, by go_num, rfl, by omega, by omega, by rw [HU.out, if_neg (by omega)]; exact rfl, hbel.trans (hb1.mono hbel.size)⟩
          case measure => simp [intOf]; omega
      · obtain rfl : k = l.length := by omega
        have HE := Lib.hid (show decide (0 ≤ Tm.lefts l m) = true from decide_eq_true (by rw [← HL.out, List.drop_length, Tm.lefts]; omega))
        go_wp2_with fail
        go_ret
        exact ⟨by rw [HE.out]; rfl, hbel⟩

/-- a block of one term, as a slice -/
theorem repS_one {w : World} {B b : Nat} {t : Tm} {A : Option Addr} {cap : Nat} {T : TypeId} (hB : w.heap[b]? = some (.cells #[.int .i64 t.kind, .string t.name, .int .i64 t.sort, .slice A t.kids.length cap] T (0, 0))) (hb : b < B) (h : RepT w B t A cap) :
    RepS w (fun b => b < B) [t] (some ⟨b, 0, none⟩) 1 := by
  refine ⟨by simp, by simp [maxLen], .inr ⟨b, 0, rfl, hb, ?_⟩⟩
  rw [RepLP, RepLP]
  exact ⟨⟨A, cap, by simp [World.cell?, hB], by simp [World.cell?, hB], by simp [World.cell?, hB], by simp [World.cell?, hB], h⟩, trivial⟩

theorem one_any (t : Tm) (A : Option Addr) (cap : Nat) (w : World) (hrep : RepT w w.heap.size t A cap) :
    Calls Tryd.prog 12 #[t.val A cap] w fun e w' => e = .returned (.bool (decide (0 ≤ t.left 450))) ∧ Lay w.heap.size w w' := by
  have hl : Lay w.heap.size w ((w.alloc (.cells #[.int .i64 t.kind, .string t.name, .int .i64 t.sort, .slice A t.kids.length cap] 24)).alloc (.cells #[.int .i64 t.kind, .string t.name, .int .i64 t.sort, .slice A t.kids.length cap] 24)) :=
    ((Lay.refl _ _).alloc (Nat.le_refl _) _).alloc (by simp) _
  have hs : RepS ((w.alloc (.cells #[.int .i64 t.kind, .string t.name, .int .i64 t.sort, .slice A t.kids.length cap] 24)).alloc (.cells #[.int .i64 t.kind, .string t.name, .int .i64 t.sort, .slice A t.kids.length cap] 24)) (fun b => b < ((w.alloc (.cells #[.int .i64 t.kind, .string t.name, .int .i64 t.sort, .slice A t.kids.length cap] 24)).alloc (.cells #[.int .i64 t.kind, .string t.name, .int .i64 t.sort, .slice A t.kids.length cap] 24)).heap.size) [t] (some ⟨w.heap.size + 1, 0, none⟩) 1 :=
    repS_one (by have h := heap_alloc_new (w.alloc (.cells #[.int .i64 t.kind, .string t.name, .int .i64 t.sort, .slice A t.kids.length cap] 24)) (.cells #[.int .i64 t.kind, .string t.name, .int .i64 t.sort, .slice A t.kids.length cap] 24); rw [World.size_alloc] at h; exact h) (by simp) (hrep.go hl.below hl.size)
  have hF := few_any [t] _ 1 1 450 _ (by omega) (by omega) hs
  have e : decide ((([t] : List Tm).length : Int) ≤ 1 ∧ 0 ≤ Tm.lefts [t] 450) = decide (0 ≤ t.left 450) := by
    congr 1
    refine propext ⟨fun h => ?_, fun h => ⟨by simp, ?_⟩⟩
    · have h2 := h.2; rw [Tm.lefts] at h2; split at h2 <;> omega
    · rw [Tm.lefts, if_neg (by omega), Tm.lefts]; exact h
  rw [e] at hF
  have HF := Lib.hid hF; clear hF hs
  generalize decide (0 ≤ t.left 450) = r at *
  simp only [Tm.val, List.length_singleton] at HF ⊢
  go_enter Tryd.func12, Tryd.ntmps12
  go_wp2_with fail
  refine HF.out.mono ?_
  rintro e w1 ⟨rfl, hb1⟩
  go_wp2_with fail
  go_ret
  exact ⟨rfl, hl.trans (hb1.mono (by simp; omega))⟩

set_option maxHeartbeats 1000000 in
set_option maxRecDepth 100000 in
theorem rsame_any (t u : Tm) (A A' : Option Addr) (cap cap' : Nat) (w : World) (ht : t.size ≤ 1000000) (hu : u.size ≤ 1000000) (hrep : RepT w w.heap.size t A cap) (hrep' : RepT w w.heap.size u A' cap') :
    Calls Tryd.prog 25 #[t.val A cap, u.val A' cap'] w fun e w' => e = .returned (.bool (t.same u)) ∧ Lay w.heap.size w w' := by
  have hL : Lay w.heap.size w ((w.alloc (.cells #[.int .i64 t.kind, .string t.name, .int .i64 t.sort, .slice A t.kids.length cap] 24)).alloc (.cells #[.int .i64 u.kind, .string u.name, .int .i64 u.sort, .slice A' u.kids.length cap'] 24)) :=
    ((Lay.refl _ _).alloc (Nat.le_refl _) _).alloc (by simp) _
  have hC := rcompare_any 1000000 t u A A' cap cap' _ ht (by omega) hu (hrep.go hL.below hL.size) (hrep'.go hL.below hL.size)
  have HC := Lib.hid hC; clear hC
  have e : t.same u = (t.cmp u == 0) := by unfold Tm.same; rw [Bool.eq_iff_iff]; simp
  rw [e]
  generalize t.cmp u = c at *
  simp only [Tm.val] at HC ⊢
  go_enter Tryd.func25, Tryd.ntmps25
  go_wp2_with fail
  refine HC.out.mono ?_
  rintro e w' ⟨rfl, hl⟩
  go_wp2_with fail
  go_ret
  exact ⟨rfl, hL.trans (hl.mono hL.size)⟩

theorem RepLP.get_grown {w : World} {l : List Tm} {b off : Nat} (hb : b < w.heap.size) (h : RepL w w.heap.size l b off) (i : Nat) (hi : i < l.length) : ∃ A cap,
    (∀ m os, (grow (w.drewN m) os).cell? ⟨b, off + i * 4, none⟩ = some (.int .i64 l[i].kind)) ∧ (∀ m os, (grow (w.drewN m) os).cell? ⟨b, off + i * 4 + 1, none⟩ = some (.string l[i].name)) ∧
    (∀ m os, (grow (w.drewN m) os).cell? ⟨b, off + i * 4 + 2, none⟩ = some (.int .i64 l[i].sort)) ∧ (∀ m os, (grow (w.drewN m) os).cell? ⟨b, off + i * 4 + 3, none⟩ = some (.slice A l[i].kids.length cap)) ∧ RepT w w.heap.size l[i] A cap := by
  obtain ⟨A, cap, h0, h1, h2, h3, h5⟩ := RepLP.get h i hi
  exact ⟨A, cap, fun m os => cell_grown hb h0 m os, fun m os => cell_grown hb h1 m os, fun m os => cell_grown hb h2 m os, fun m os => cell_grown hb h3 m os, h5⟩

theorem take_succ_eq {l m : List Tm} {k : Nat} (h : l.take k = m.take k) (hl : k < l.length) (hm : k < m.length) (e : l[k] = m[k]) : l.take (k + 1) = m.take (k + 1) := by
  rw [List.take_succ_eq_append_getElem hl, List.take_succ_eq_append_getElem hm, h, e]

/-- equality of lists of terms, as a Bool that no simp set takes apart -/
def Tm.sames : List Tm → List Tm → Bool
  | [], [] => true
  | t :: l, u :: m => t.same u && Tm.sames l m
  | _, _ => false
theorem Tm.sames_iff : ∀ {l m : List Tm}, Tm.sames l m = true ↔ l = m
  | [], [] => by simp [Tm.sames]
  | [], _ :: _ => by simp [Tm.sames]
  | _ :: _, [] => by simp [Tm.sames]
  | t :: l, u :: m => by rw [Tm.sames, Bool.and_eq_true, Tm.same_iff, Tm.sames_iff, List.cons.injEq]
theorem Tm.sames_false {l m : List Tm} (h : l ≠ m) : Tm.sames l m = false := by rw [← Bool.not_eq_true, Tm.sames_iff]; exact h

set_option maxHeartbeats 2000000 in
set_option maxRecDepth 100000 in
theorem lists_any (l m : List Tm) (A A' : Option Addr) (cap cap' : Nat) (w : World) (hl : ∀ t ∈ l, t.size ≤ 1000000) (hm : ∀ t ∈ m, t.size ≤ 1000000) (hlen : l.length ≤ 10000000) (hlen' : m.length ≤ 1000000000000)
    (hrep : RepS w (fun b => b < w.heap.size) l A cap) (hrep' : RepS w (fun b => b < w.heap.size) m A' cap') :
    Calls Tryd.prog 26 #[.slice A l.length cap, .slice A' m.length cap'] w fun e w' => e = .returned (.bool (Tm.sames l m)) ∧ Lay w.heap.size w w' := by
  have mixed : Tryd.prog.follows .mixedOrders = true := by kernel_rfl
  by_cases hne : l.length = m.length
  · have hnb : ((l.length : Int) != (m.length : Int)) = false := by simp [hne]
    have HL := Lib.hid hl; clear hl
    have HNE := Lib.hid hne; clear hne
    have HM := Lib.hid hm; clear hm
    go_enter Tryd.func26, Tryd.ntmps26
    go_wp2_with fail
    go_loopw [5] (fun i wr => ∃ k : Nat, k ≤ l.length ∧ i = .int .i64 k ∧ Hid (l.take k = m.take k) ∧ Lay w.heap.size w wr)
      (fun i _ => l.length - (intOf i).toNat)
    case atStart => exact ⟨0, Nat.zero_le _, rfl, rfl, Lay.refl _ _⟩
    case round =>
      obtain ⟨k, hk, rfl, HT, hbel⟩ := hrel
      by_cases hlt : k < l.length
      · have hlt2 : k < m.length := by have := HNE.out; omega
        obtain ⟨_, _, hr4⟩ := hrep.below hbel.below
        obtain ⟨_, _, hr4'⟩ := hrep'.below hbel.below
        rcases hr4 with rfl | ⟨b, off, rfl, hbB, hl⟩
        · simp at hlt
        rcases hr4' with rfl | ⟨b', off', rfl, hbB', hl'⟩
        · simp at hlt2
        have hss := hbel.size
        obtain ⟨C, c, a0, a1, a2, a3, a5⟩ := RepLP.get_grown (by omega) (RepLP.mono (w := wr) (w' := wr) (P := fun b => b < w.heap.size) (P' := fun b => b < wr.heap.size) (fun _ h => by omega) (fun _ _ => rfl) _ _ _ hbB hl) k hlt
        obtain ⟨C', c', b0, b1, b2, b3, b5⟩ := RepLP.get_grown (by omega) (RepLP.mono (w := wr) (w' := wr) (P := fun b => b < w.heap.size) (P' := fun b => b < wr.heap.size) (fun _ h => by omega) (fun _ _ => rfl) _ _ _ hbB' hl') k hlt2
        have CK : Hid (∀ X, Lay wr.heap.size wr X → Calls Tryd.prog 25 #[l[k].val C c, m[k].val C' c'] X fun e w' => e = .returned (.bool (l[k].same m[k])) ∧ Lay X.heap.size X w') := fun X hX =>
          rsame_any _ _ _ _ _ _ X (HL.out _ (List.getElem_mem _)) (HM.out _ (List.getElem_mem _)) (a5.go hX.below hX.size) (b5.go hX.below hX.size)
        have i2 : (k : Int) < (m.length : Int) := by have := HNE.out; omega
        obtain ⟨c0, hc0⟩ : ∃ c, c = l[k].same m[k] := ⟨_, rfl⟩
        rw [← hc0] at CK
        have HC := Lib.hid hc0; clear hc0
        clear a5 b5 hl hl' hbB hbB'
        simp only [Tm.val] at CK
        cases c0 with
        | false =>
          have HE := Lib.hid (Tm.sames_false (l := l) (m := m) (fun e => by subst e; exact (Tm.same_false.1 HC.out.symm) rfl))
          go_wp2_with fail
          go_quiet_grown ((go_at_call 25; exact quiet_lay (CK.out _ (Lay.of_grow _ _))))
          go_wp2_with fail
          go_ret
          exact ⟨by rw [HE.out]; rfl, hbel.trans ((Lay.of_grow _ _).mono hss)⟩
        | true =>
          go_wp2_with fail
          go_quiet_grown ((go_at_call 25; exact quiet_lay (CK.out _ (Lay.of_grow _ _))))
          go_wp2_with fail
          go_roundw
          case rel => exact ⟨k + 1, by omega, by go_num, take_succ_eq HT.out hlt hlt2 (Tm.same_iff.1 HC.out.symm), hbel.trans ((Lay.of_grow _ _).mono hss)⟩
          case measure => simp [intOf]; omega
      · obtain rfl : k = l.length := by omega
        have e : l = m := by have h := HT.out; rwa [List.take_length, HNE.out, List.take_length] at h
        have HE := Lib.hid (Tm.sames_iff.2 e)
        clear e
        go_wp2_with fail
        go_ret
        exact ⟨by rw [HE.out]; rfl, hbel⟩
  · have hnb : ((l.length : Int) != (m.length : Int)) = true := by simp; omega
    rw [Tm.sames_false (fun e => hne (by rw [e]))]
    go_enter Tryd.func26, Tryd.ntmps26
    go_wp2_with fail
    go_ret
    exact ⟨rfl, Lay.refl _ _⟩
end Go.Proofs.YtbgkabgbgbebaaaDoor
