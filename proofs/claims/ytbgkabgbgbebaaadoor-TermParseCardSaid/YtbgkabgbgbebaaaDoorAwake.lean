/- The examples that every law of the layer checks first. -/
import Derived.Test.YtbgkabgbgbebaaaDoorParse
import Derived.Test.YtbgkabgbgbebaaaDoorApp
import Derived.Test.YtbgkabgbgbebaaaDoorPos
import Derived.Test.YtbgkabgbgbebaaaDoorBox
import Derived.Test.YtbgkabgbgbebaaaDoorMix
import Derived.Test.YtbgkabgbgbebaaaDoorSubterms
namespace Go.Proofs.YtbgkabgbgbebaaaDoor
open Go.RowKit Go.Sort

def tX : Tm := .mk 1 ⟨#[120]⟩ 0 []
def tN : Tm := .mk 2 ⟨#[97]⟩ 2 []
def tP : Tm := .mk 3 ⟨#[112, 97, 105, 114]⟩ 0 [tX, tN]
def tA : Tm := .mk 2 ⟨#[97]⟩ 0 []
def tB : Tm := .mk 2 ⟨#[98]⟩ 0 []
def tF : Tm := .mk 3 ⟨#[102]⟩ 0 [tA, tA]
def tF0 : Tm := .mk 3 ⟨#[102]⟩ 0 []
def tZ : Tm := .mk 0 ⟨#[]⟩ 0 []
def tQ : Tm := .mk 3 ⟨#[112, 97, 105, 114]⟩ 0 [tA, tA]
theorem parse1 : parseE [112, 97, 105, 114, 40, 63, 120, 44, 32, 97, 58, 110, 111, 110, 99, 101, 41] = (tP, 0) := by rfl
theorem parse2 : parseE [97] = (tZ, 2) := by rfl
theorem parse3 : parseE [102, 40, 41] = (tF0, 0) := by rfl
theorem sizeP : tP.size = 3 := by rfl
theorem depthP : tP.depth = 2 := by rfl
theorem cmpAB : tA.cmp tB = -1 := by decide
theorem cmpBQ : tB.cmp tQ = -1 := by decide
theorem subF : Tm.set (Tm.alls [tF]) = [tA, tF] := by rfl
theorem possP : tP.poss = [[], [0], [1]] := by rfl

/-- .. and that a list of two terms is that list -/
theorem lists_true (its : List It) (A A' : Option Addr) (c c' : Nat) (w : World) (hm : its.map (·.1) = [tA, tF]) (h : RepS w (fun b => b < w.heap.size) (its.map (·.1)) A' c') (h' : RepS w (fun b => b < w.heap.size) [tA, tF] A c) :
    Calls Tryd.prog 26 #[.slice A' its.length c', .slice A 2 c] w fun e w' => e = .returned (.bool true) ∧ Lay w.heap.size w w' := by
  have hl : its.length = 2 := by have := congrArg List.length hm; simpa using this
  rw [hm] at h
  rw [hl]
  have := lists_any [tA, tF] [tA, tF] A' A c' c w (by decide) (by decide) (by decide) (by decide) h h'
  rwa [show Tm.sames [tA, tF] [tA, tF] = true from Tm.sames_iff.2 rfl] at this

set_option maxHeartbeats 4000000 in
set_option maxRecDepth 100000 in
theorem awake_any (w : World) (hw : Words w.heap.size w) :
    Calls Tryd.prog 11 #[] w fun e w' => e = .returned (.bool true) ∧ Below w.heap.size w w' := by
  have mixed : Tryd.prog.follows .mixedOrders = true := by kernel_rfl
  have HW := Lib.hid hw; clear hw
  have hP1 := parse_any ⟨#[112, 97, 105, 114, 40, 63, 120, 44, 32, 97, 58, 110, 111, 110, 99, 101, 41]⟩ w (by decide) HW.out
  unfold Parsed at hP1
  rw [show (⟨#[112, 97, 105, 114, 40, 63, 120, 44, 32, 97, 58, 110, 111, 110, 99, 101, 41]⟩ : ByteArray).data.toList = [112, 97, 105, 114, 40, 63, 120, 44, 32, 97, 58, 110, 111, 110, 99, 101, 41] from rfl, parse1] at hP1
  have HP1 := Lib.hid hP1; clear hP1
  go_enter Tryd.func11, Tryd.ntmps11
  go_wp2_with fail
  refine HP1.out.mono ?_
  rintro e w1 ⟨A1, c1, rfl, hr1, hb1⟩
  have HR1 := Lib.hid (repT_of hr1); clear hr1
  have HB1 := Lib.hid hb1; clear hb1 HP1
  simp only [Tm.val, tP, tX, tN, Tm.kind, Tm.name, Tm.sort, Tm.kids, List.length_cons, List.length_nil, Nat.zero_add, Nat.reduceAdd]
  go_wp2_with fail
  obtain ⟨V1, hV1⟩ : ∃ V, V = w1.alloc (boxOf tP A1 c1) := ⟨_, rfl⟩
  have hB1 : BoxT V1 w1.heap.size tP A1 c1 := by rw [hV1]; exact BoxT.new HR1.out
  have hb1 : Below w.heap.size w V1 := by rw [hV1]; exact HB1.out.alloc HB1.out.size _
  simp only [boxOf, tP, tX, tN, Tm.kind, Tm.name, Tm.sort, Tm.kids, List.length_cons, List.length_nil, Nat.zero_add, Nat.reduceAdd] at hV1
  have HV1 := Lib.hid hV1; clear hV1
  have HX1 := Lib.hid hB1; clear hB1
  have HB := Lib.hid hb1; clear hb1 HB1 HR1
  rw [← HV1.out]
  refine (atom_any ⟨#[97]⟩ 0 V1).mono ?_
  rintro e w2 ⟨rfl, hl2⟩
  have HL2 := Lib.hid hl2.below; clear hl2
  simp only [Tm.val, Tm.kind, Tm.name, Tm.sort, Tm.kids, List.length_nil]
  go_wp2_with fail
  refine (atom_any ⟨#[98]⟩ 0 w2).mono ?_
  rintro e w3 ⟨rfl, hl3⟩
  have HL3 := Lib.hid hl3.below; clear hl3
  simp only [Tm.val, Tm.kind, Tm.name, Tm.sort, Tm.kids, List.length_nil]
  go_wp2_with fail
  -- region 3: App
  obtain ⟨B3, hB3⟩ : ∃ B, B = w3.heap.size := ⟨_, rfl⟩
  obtain ⟨Va, hVa⟩ : ∃ V, V = w3.alloc (boxOf tA none 0) := ⟨_, rfl⟩
  obtain ⟨Vb, hVb⟩ : ∃ V, V = Va.alloc (boxOf tB none 0) := ⟨_, rfl⟩
  obtain ⟨V3, hV3⟩ : ∃ V, V = Vb.alloc (.cells (itCells [(tA, none, 0), (tA, none, 0)]).toArray 24) := ⟨_, rfl⟩
  have nilRep : ∀ (V : World) (B : Nat) (k s : Int) (n : ByteArray), n.size ≤ maxLen → RepT V B (.mk k n s []) none 0 := fun V B k s n h => by
    rw [RepT_mk]; exact ⟨h, Nat.zero_le _, Nat.zero_le _, .inl rfl⟩
  have hXa : BoxT Va B3 tA none 0 := by rw [hVa, hB3]; exact BoxT.new (nilRep _ _ _ _ _ (by decide))
  have hsa : Va.heap.size = B3 + 1 := by rw [hVa, hB3]; simp
  have hsb : Vb.heap.size = B3 + 2 := by rw [hVb]; simp [hsa]
  have hs3 : V3.heap.size = B3 + 3 := by rw [hV3]; simp [hsb]
  have hXb : BoxT Vb (B3 + 1) tB none 0 := by rw [hVb, ← hsa]; exact BoxT.new (nilRep _ _ _ _ _ (by decide))
  have hba : Below Va.heap.size Va Vb := by rw [hVb]; exact below1 (Nat.le_refl _) _
  have hbb : Below Vb.heap.size Vb V3 := by rw [hV3]; exact below1 (Nat.le_refl _) _
  have h3a : Below w3.heap.size w3 Va := by rw [hVa]; exact below1 (Nat.le_refl _) _
  have hX3 : BoxT V3 B3 tA none 0 := (hXa.below hba).below hbb
  have hX4 : BoxT V3 (B3 + 1) tB none 0 := hXb.below hbb
  have hS3 : RepS V3 (fun b => b < V3.heap.size) [tA, tA] (some ⟨B3 + 1 + 1, 0, none⟩) 2 :=
    repS_cells [(tA, none, 0), (tA, none, 0)] (by rw [hV3, show B3 + 1 + 1 = Vb.heap.size by omega]; exact heap_alloc_new _ _) (by omega)
      (fun x hx => by simp at hx; rcases hx with rfl <;> exact nilRep _ _ _ _ _ (by decide)) (by simp)
  have hw3 : Below w3.heap.size w3 V3 := below_then (below_then h3a hba (by omega)) hbb (by omega)
  have hv3 : Below V1.heap.size V1 V3 := below_then (below_then HL2.out HL3.out HL2.out.size) hw3 (by have := HL2.out.size; have := HL3.out.size; omega)
  have hX1 : BoxT V3 w1.heap.size tP A1 c1 := HX1.out.below hv3
  have hb3 : Below w.heap.size w V3 := below_then HB.out hv3 HB.out.size
  have HV3 : Hid (V3 = ((w3.alloc (boxOf tA none 0)).alloc (boxOf tB none 0)).alloc (.cells (itCells [(tA, none, 0), (tA, none, 0)]).toArray 24)) := by
    apply Lib.hid; rw [hV3, hVb, hVa]
  have hV3' := HV3.out
  simp only [boxOf, tA, tB, Tm.kind, Tm.name, Tm.sort, Tm.kids, itCells, Tm.cells, List.length_nil, List.cons_append, List.nil_append] at hV3'
  clear HV3
  have HV3 := Lib.hid hV3'; clear hV3' hV3 hVb hVa hXa hXb hba hbb h3a hw3 hv3 HX1 HB HV1 HL2 HL3 hsa hsb
  rw [← hB3, ← HV3.out]
  have HB3 := Lib.hid hB3
  have HX1 := Lib.hid hX1; clear hX1
  have HX3 := Lib.hid hX3; clear hX3
  have HX4 := Lib.hid hX4; clear hX4
  have HS3 := Lib.hid hs3; clear hs3
  have HB := Lib.hid hb3; clear hb3
  refine (app_any ⟨#[102]⟩ [tA, tA] (some ⟨B3 + 1 + 1, 0, none⟩) 2 V3 (by decide) (by simp) (by simp) hS3).mono ?_
  clear hS3 HV3
  rintro e w5 ⟨A5, c5, rfl, hr5, hb5⟩
  clear HB3 hB3
  have hw5 : Below w.heap.size w w5 := below_then HB.out hb5 HB.out.size
  have hx1 := HX1.out.below hb5
  have hx3 := HX3.out.below hb5
  have hx4 := HX4.out.below hb5
  obtain ⟨V5, hV5⟩ : ∃ V, V = w5.alloc (boxOf tF A5 c5) := ⟨_, rfl⟩
  have hb5' : Below w5.heap.size w5 V5 := by rw [hV5]; exact below1 (Nat.le_refl _) _
  have hX5 : BoxT V5 w5.heap.size tF A5 c5 := by rw [hV5]; exact BoxT.new hr5
  have hX1 := hx1.below hb5'
  have hX3 := hx3.below hb5'
  have hX4 := hx4.below hb5'
  have hB5 := below_then hw5 hb5' hw5.size
  have hP2 := parse_any ⟨#[97]⟩ V5 (by decide) (HW.out.below hB5)
  unfold Parsed at hP2
  rw [show (⟨#[97]⟩ : ByteArray).data.toList = [97] from rfl, parse2] at hP2
  simp only [boxOf, tF, tA, Tm.kind, Tm.name, Tm.sort, Tm.kids, List.length_cons, List.length_nil, Nat.zero_add, Nat.reduceAdd] at hV5
  clear hx1 hx3 hx4 hr5 hb5 hb5' hw5 HB HS3 HX1 HX3 HX4
  have HV5 := Lib.hid hV5; clear hV5
  have HB := Lib.hid hB5; clear hB5
  have HX1 := Lib.hid hX1; clear hX1
  have HX3 := Lib.hid hX3; clear hX3
  have HX4 := Lib.hid hX4; clear hX4
  have HX5 := Lib.hid hX5; clear hX5
  have HP2 := Lib.hid hP2; clear hP2
  simp only [Tm.val, Tm.kind, Tm.name, Tm.sort, Tm.kids, List.length_cons, List.length_nil, Nat.zero_add, Nat.reduceAdd]
  go_wp2_with fail
  rw [← HV5.out]
  refine HP2.out.mono ?_
  clear HP2 HV5
  rintro e w6 ⟨A6, c6, rfl, hr6, hb6⟩
  have hw6 : Below w.heap.size w w6 := below_then HB.out hb6 HB.out.size
  have hx1 := HX1.out.below hb6
  have hx3 := HX3.out.below hb6
  have hx4 := HX4.out.below hb6
  have hx5 := HX5.out.below hb6
  obtain ⟨V6, hV6⟩ : ∃ V, V = w6.alloc (boxOf tZ A6 c6) := ⟨_, rfl⟩
  have hb6' : Below w6.heap.size w6 V6 := by rw [hV6]; exact below1 (Nat.le_refl _) _
  have hX1 := hx1.below hb6'
  have hX3 := hx3.below hb6'
  have hX4 := hx4.below hb6'
  have hX5 := hx5.below hb6'
  have hB6 := below_then hw6 hb6' hw6.size
  have hP3 := parse_any ⟨#[102, 40, 41]⟩ V6 (by decide) (HW.out.below hB6)
  unfold Parsed at hP3
  rw [show (⟨#[102, 40, 41]⟩ : ByteArray).data.toList = [102, 40, 41] from rfl, parse3] at hP3
  simp only [boxOf, tZ, Tm.kind, Tm.name, Tm.sort, Tm.kids, List.length_nil] at hV6
  clear hx1 hx3 hx4 hx5 hr6 hb6 hb6' hw6 HB HX1 HX3 HX4 HX5
  have HV6 := Lib.hid hV6; clear hV6
  have HB := Lib.hid hB6; clear hB6
  have HX1 := Lib.hid hX1; clear hX1
  have HX3 := Lib.hid hX3; clear hX3
  have HX4 := Lib.hid hX4; clear hX4
  have HX5 := Lib.hid hX5; clear hX5
  have HP3 := Lib.hid hP3; clear hP3
  simp only [Tm.val, tZ, Tm.kind, Tm.name, Tm.sort, Tm.kids, List.length_nil]
  go_wp2_with fail
  rw [← HV6.out]
  refine HP3.out.mono ?_
  clear HP3 HV6
  rintro e w7 ⟨A7, c7, rfl, hr7, hb7⟩
  have hw7 : Below w.heap.size w w7 := below_then HB.out hb7 HB.out.size
  have hx1 := HX1.out.below hb7
  have hx3 := HX3.out.below hb7
  have hx4 := HX4.out.below hb7
  have hx5 := HX5.out.below hb7
  obtain ⟨V7, hV7⟩ : ∃ V, V = w7.alloc (boxOf tF0 A7 c7) := ⟨_, rfl⟩
  have hb7' : Below w7.heap.size w7 V7 := by rw [hV7]; exact below1 (Nat.le_refl _) _
  have hX8 : BoxT V7 w7.heap.size tF0 A7 c7 := by rw [hV7]; exact BoxT.new (repT_of hr7)
  have hX1 := hx1.below hb7'
  have hX3 := hx3.below hb7'
  have hX4 := hx4.below hb7'
  have hX5 := hx5.below hb7'
  have hB7 := below_then hw7 hb7' hw7.size
  simp only [boxOf, tF0, Tm.kind, Tm.name, Tm.sort, Tm.kids, List.length_nil] at hV7
  obtain ⟨a0, a1, a2, a3, -⟩ := hX1.cells
  have hpos := positions_any tP A1 c1 V7 (by decide) hX1.2
  unfold PosOf at hpos
  rw [possP] at hpos
  simp only [Tm.val, tP, tX, tN, Tm.kind, Tm.name, Tm.sort, Tm.kids, List.length_cons, List.length_nil, Nat.zero_add, Nat.reduceAdd] at a0 a1 a2 a3 hpos
  clear hx1 hx3 hx4 hx5 hr7 hb7 hb7' hw7 HB HX1 HX3 HX4 HX5
  have HV7 := Lib.hid hV7; clear hV7
  have HB := Lib.hid hB7; clear hB7
  have HX1 := Lib.hid hX1; clear hX1
  have HX3 := Lib.hid hX3; clear hX3
  have HX4 := Lib.hid hX4; clear hX4
  have HX5 := Lib.hid hX5; clear hX5
  have HX8 := Lib.hid hX8; clear hX8
  have HPOS := Lib.hid hpos; clear hpos
  rw [HV7.out] at a0 a1 a2 a3
  simp only [Tm.val, tF0, Tm.kind, Tm.name, Tm.sort, Tm.kids, List.length_nil]
  go_wp2_with fail
  rw [← HV7.out]
  refine HPOS.out.mono ?_
  clear HPOS HV7 a0 a1 a2 a3
  rintro e w8 ⟨v8, its, rfl, hrow, hb8, hits⟩
  obtain ⟨Ap, cp, rfl, -⟩ := hrow.form
  match its, hits with
  | [(p0, q0, r0), (p1, q1, r1), (p2, q2, r2)], hits =>
  simp only [List.map_cons, List.map_nil, List.cons.injEq, and_true] at hits
  obtain ⟨rfl, rfl, rfl⟩ := hits
  obtain ⟨g, rfl, g0⟩ := hrow.slot 0 (by simp)
  obtain ⟨_, hg, g2⟩ := hrow.slot 2 (by simp)
  obtain rfl : g = _ := by injection hg with hg; injection hg with hg
  obtain ⟨bq, oq, rfl, hbq, -, -, hq⟩ := hrow.reps ([1], q2, r2) (by simp)
  have hq0 := hq 0 (.int .i64 1) rfl
  have hw8 : Below w.heap.size w w8 := below_then HB.out hb8 HB.out.size
  have hX1 := HX1.out.below hb8
  have hX3 := HX3.out.below hb8
  have hX4 := HX4.out.below hb8
  have hX5 := HX5.out.below hb8
  have hX8 := HX8.out.below hb8
  obtain ⟨a0, a1, a2, a3, -⟩ := hX8.cells
  simp only [tF0, Tm.kind, Tm.name, Tm.sort, Tm.kids, List.length_nil, List.getElem_cons_zero, List.getElem_cons_succ, List.length_cons, Nat.zero_add] at a0 a1 a2 a3 g0 g2 hq0
  clear hrow hq HB HX1 HX3 HX4 HX5 HX8 hX8
  have HB := Lib.hid hw8; clear hw8
  have HX1 := Lib.hid hX1; clear hX1
  have HX3 := Lib.hid hX3; clear hX3
  have HX4 := Lib.hid hX4; clear hX4
  have HX5 := Lib.hid hX5; clear hX5
  have HQ0 := Lib.hid hq0; clear hq0
  have HBQ := Lib.hid hbq.2.1; clear hbq
  simp only [List.length_cons, List.length_nil, Nat.zero_add, Nat.reduceAdd]
  clear hg hb8
  go_wp2_with fail
  refine (Tryd.slices_Equal_int bq oq 1 r2 w8.heap.size 0 1 1 [1] [1] _ (by simp) (by simp) (by decide) (by decide) (fun j hj => ?_) (fun j hj => ?_)).mono ?_
  · obtain rfl : j = 0 := by simpa using hj
    rw [(below1 (Nat.le_refl _) _).cell HBQ.out]
    exact HQ0.out
  · obtain rfl : j = 0 := by simpa using hj
    have hn : (w8.alloc (.cells #[.int .i64 1] 3)).heap[w8.heap.size]? = some (.cells #[.int .i64 1] 3) := heap_alloc_new _ _
    unfold World.cell?
    simp only [hn]
    rfl
  rintro e w9 ⟨rfl, q, rfl⟩
  have h9 : Below w8.heap.size w8 ((w8.alloc (.cells #[.int .i64 1] 3)).drewN q) := ((Lay.refl _ _).alloc (Nat.le_refl _) _).drewN q |>.below
  have hB := below_then HB.out h9 HB.out.size
  have hX1 := HX1.out.below h9
  have hX3 := HX3.out.below h9
  have hX4 := HX4.out.below h9
  have hX5 := HX5.out.below h9
  clear HB HX1 HX3 HX4 HX5 h9 HQ0 HBQ a0 a1 a2 a3 g0 g2 nilRep
  generalize (w8.alloc (.cells #[.int .i64 1] 3)).drewN q = W0 at *
  have HB := Lib.hid hB; clear hB
  have HX1 := Lib.hid hX1; clear hX1
  have HX3 := Lib.hid hX3; clear hX3
  have HX4 := Lib.hid hX4; clear hX4
  have HX5 := Lib.hid hX5; clear hX5
  -- region 9
  go_wp2_with fail
  have hS : Below W0.heap.size W0 W0.drew := (Lay.refl _ _).drew.below
  have HS := Lib.hid hS
  have HC1 : Hid (∀ X, Below W0.heap.size W0 X → X.cell? ⟨w1.heap.size, 0, none⟩ = some (.int .i64 tP.kind) ∧ X.cell? ⟨w1.heap.size, 1, none⟩ = some (.string tP.name) ∧ X.cell? ⟨w1.heap.size, 2, none⟩ = some (.int .i64 tP.sort) ∧ X.cell? ⟨w1.heap.size, 3, none⟩ = some (.slice A1 tP.kids.length c1)) := fun X h => by
    obtain ⟨h0, h1, h2, h3, -⟩ := (HX1.out.below h).cells
    exact ⟨h0, h1, h2, h3⟩
  have HC3 : Hid (∀ X, Below W0.heap.size W0 X → X.cell? ⟨B3, 0, none⟩ = some (.int .i64 tA.kind) ∧ X.cell? ⟨B3, 1, none⟩ = some (.string tA.name) ∧ X.cell? ⟨B3, 2, none⟩ = some (.int .i64 tA.sort) ∧ X.cell? ⟨B3, 3, none⟩ = some (.slice none tA.kids.length 0)) := fun X h => by
    obtain ⟨h0, h1, h2, h3, -⟩ := (HX3.out.below h).cells
    exact ⟨h0, h1, h2, h3⟩
  have HC4 : Hid (∀ X, Below W0.heap.size W0 X → X.cell? ⟨B3 + 1, 0, none⟩ = some (.int .i64 tB.kind) ∧ X.cell? ⟨B3 + 1, 1, none⟩ = some (.string tB.name) ∧ X.cell? ⟨B3 + 1, 2, none⟩ = some (.int .i64 tB.sort) ∧ X.cell? ⟨B3 + 1, 3, none⟩ = some (.slice none tB.kids.length 0)) := fun X h => by
    obtain ⟨h0, h1, h2, h3, -⟩ := (HX4.out.below h).cells
    exact ⟨h0, h1, h2, h3⟩
  have HC5 : Hid (∀ X, Below W0.heap.size W0 X → X.cell? ⟨w5.heap.size, 0, none⟩ = some (.int .i64 tF.kind) ∧ X.cell? ⟨w5.heap.size, 1, none⟩ = some (.string tF.name) ∧ X.cell? ⟨w5.heap.size, 2, none⟩ = some (.int .i64 tF.sort) ∧ X.cell? ⟨w5.heap.size, 3, none⟩ = some (.slice A5 tF.kids.length c5)) := fun X h => by
    obtain ⟨h0, h1, h2, h3, -⟩ := (HX5.out.below h).cells
    exact ⟨h0, h1, h2, h3⟩
  simp only [tP, tX, tN, tA, tB, tF, Tm.kind, Tm.name, Tm.sort, Tm.kids, List.length_cons, List.length_nil, Nat.zero_add, Nat.reduceAdd] at HC1 HC3 HC4 HC5
  clear hS
  refine wp_region_mix (fun X => Below W0.heap.size W0 X) 33 (.op 0 (.op 1 (.op 2 (.op 3 (.op 4 (.op 5 (.op 6 (.op 7 (.op 8 (.held 9 (.held 10 (.op 11 (.op 12 (.op 13 (.op 14 (.held 15 (.held 16 (.held 17 (.op 18 (.op 19 (.op 20 (.op 21 (.op 22 (.op 23 (.held 24 (.held 27 (.held 28 (.two 25 29 (.two 26 29 (.op 29 (.op 30 (.op 31 (.op 32 .nil)))) (.op 26 (.op 30 (.op 31 (.op 32 .nil))))) (.op 25 (.op 26 (.op 30 (.op 31 (.op 32 .nil))))))))))))))))))))))))))))))))) mixed (by kernel_rfl) ?_
  obtain ⟨p0, p1, p2, p3⟩ := HC1.out _ HS.out
  refine mix_op_g rfl (by rfl) (fun K hK => ?_)
  go_wp2_with fail
  refine ⟨fun _ => HS.out, ?_⟩
  clear p0 p1 p2 p3
  refine mix_op_g rfl (by rfl) (fun K hK => ?_)
  go_wp2_with fail
  refine (size_any 10 tP A1 c1 W0.drew (by decide) (by decide) (HX1.out.below HS.out).2).mono ?_
  rintro e y1 ⟨rfl, hl⟩
  have hS := below_then HS.out hl.below HS.out.size; clear hl HS
  have HS := Lib.hid hS; clear hS
  rw [sizeP]
  refine hK _ _ ⟨fun _ => HS.out, ?_⟩; clear hK K
  refine mix_op_g rfl (by rfl) (fun K hK => ?_)
  go_wp2_with fail
  refine ⟨fun _ => HS.out, ?_⟩
  refine mix_op_g rfl (by rfl) (fun K hK => ?_)
  go_wp2_with fail
  refine ⟨fun _ => HS.out, ?_⟩
  obtain ⟨p0, p1, p2, p3⟩ := HC1.out _ HS.out
  refine mix_op_g rfl (by rfl) (fun K hK => ?_)
  go_wp2_with fail
  refine ⟨fun _ => HS.out, ?_⟩
  clear p0 p1 p2 p3
  refine mix_op_g rfl (by rfl) (fun K hK => ?_)
  go_wp2_with fail
  refine (depth_any 10 tP A1 c1 y1 (by decide) (by decide) (HX1.out.below HS.out).2).mono ?_
  rintro e y2 ⟨rfl, hl⟩
  have hS := below_then HS.out hl.below HS.out.size; clear hl HS
  have HS := Lib.hid hS; clear hS
  rw [depthP]
  refine hK _ _ ⟨fun _ => HS.out, ?_⟩; clear hK K
  refine mix_op_g rfl (by rfl) (fun K hK => ?_)
  go_wp2_with fail
  refine ⟨fun _ => HS.out, ?_⟩
  refine mix_op_g rfl (by rfl) (fun K hK => ?_)
  go_wp2_with fail
  refine ⟨fun _ => HS.out, ?_⟩
  refine mix_op_g rfl (by rfl) (fun K hK => ?_)
  go_wp2_with fail
  refine ⟨fun _ => HS.out, ?_⟩
  refine mix_take_g (v := .agg #[.int .i64 2, .string ⟨#[97]⟩, .int .i64 0, .slice none 0 0]) rfl (by rfl) (fun _ _ _ h => h) HS.out (fun X hX => by obtain ⟨g0, g1, g2, g3⟩ := HC3.out X hX; (try simp only [Act.put]); go_simp) ?_
  refine mix_take_g (v := .agg #[.int .i64 2, .string ⟨#[98]⟩, .int .i64 0, .slice none 0 0]) rfl (by rfl) (fun _ _ _ h => h) HS.out (fun X hX => by obtain ⟨g0, g1, g2, g3⟩ := HC4.out X hX; (try simp only [Act.put]); go_simp) ?_
  simp only [Act.put, List.setIfInBounds_toArray]
  refine mix_op_g rfl (by rfl) (fun K hK => ?_)
  go_wp2_with fail
  refine (compare_any 10 tA tB none none 0 0 y2 (by decide) (by decide) (by decide) (HX3.out.below HS.out).2 (HX4.out.below HS.out).2).mono ?_
  rintro e y3 ⟨rfl, hl⟩
  have hS := below_then HS.out hl.below HS.out.size; clear hl HS
  have HS := Lib.hid hS; clear hS
  rw [cmpAB]
  refine hK _ _ ⟨fun _ => HS.out, ?_⟩; clear hK K
  refine mix_op_g rfl (by rfl) (fun K hK => ?_)
  go_wp2_with fail
  refine ⟨fun _ => HS.out, ?_⟩
  refine mix_op_g rfl (by rfl) (fun K hK => ?_)
  go_wp2_with fail
  refine ⟨fun _ => HS.out, ?_⟩
  refine mix_op_g rfl (by rfl) (fun K hK => ?_)
  go_wp2_with fail
  refine ⟨fun _ => HS.out, ?_⟩
  refine mix_take_g (v := .agg #[.int .i64 2, .string ⟨#[98]⟩, .int .i64 0, .slice none 0 0]) rfl (by rfl) (fun _ _ _ h => h) HS.out (fun X hX => by obtain ⟨g0, g1, g2, g3⟩ := HC4.out X hX; (try simp only [Act.put]); go_simp) ?_
  refine mix_take_g (v := .agg #[.int .i64 2, .string ⟨#[97]⟩, .int .i64 0, .slice none 0 0]) rfl (by rfl) (fun _ _ _ h => h) HS.out (fun X hX => by obtain ⟨g0, g1, g2, g3⟩ := HC3.out X hX; (try simp only [Act.put]); go_simp) ?_
  refine mix_take_g (v := .agg #[.int .i64 2, .string ⟨#[97]⟩, .int .i64 0, .slice none 0 0]) rfl (by rfl) (fun _ _ _ h => h) HS.out (fun X hX => by obtain ⟨g0, g1, g2, g3⟩ := HC3.out X hX; (try simp only [Act.put]); go_simp) ?_
  simp only [Act.put, List.setIfInBounds_toArray]
  refine mix_op_g rfl (by rfl) (fun K hK => ?_)
  go_wp2_with fail
  refine ⟨fun _ => HS.out.alloc HS.out.size _, ?_⟩
  obtain ⟨Z1, hZ1⟩ : ∃ Z, Z = y3.alloc (.cells #[.int .i64 2, .string ⟨#[97]⟩, .int .i64 0, .slice none 0 0, .int .i64 2, .string ⟨#[97]⟩, .int .i64 0, .slice none 0 0] 24) := ⟨_, rfl⟩
  have hS : Below W0.heap.size W0 Z1 := by rw [hZ1]; exact HS.out.alloc HS.out.size _
  have hzZ1 : Below y3.heap.size y3 Z1 := by rw [hZ1]; exact below1 (Nat.le_refl _) _
  have hs1 : RepS Z1 (fun b => b < Z1.heap.size) [tA, tA] (some ⟨y3.heap.size, 0, none⟩) 2 :=
    repS_cells [(tA, none, 0), (tA, none, 0)] (by rw [hZ1]; exact heap_alloc_new _ _) (by rw [hZ1]; simp) (fun x hx => by
      simp only [List.mem_cons, List.not_mem_nil, or_false] at hx
      rcases hx with rfl | rfl <;> exact (HX3.out.below hS).2) (by simp)
  clear HS; rw [← hZ1]; clear hZ1
  have HS := Lib.hid hS; clear hS
  have HS1 := Lib.hid hs1; clear hs1 hzZ1
  refine mix_op_g rfl (by rfl) (fun K hK => ?_)
  go_wp2_with fail
  refine (app_any ⟨#[112, 97, 105, 114]⟩ [tA, tA] _ 2 Z1 (by decide) (by simp) (by simp) HS1.out).mono ?_
  rintro e y4 ⟨A9, c9, rfl, hr9, hb⟩
  have hS := below_then HS.out hb HS.out.size; clear hb HS
  have HS := Lib.hid hS; clear hS
  have HR9 := Lib.hid hr9; clear hr9 HS1
  simp only [Tm.val, Tm.kind, Tm.name, Tm.sort, Tm.kids, List.length_cons, List.length_nil, Nat.zero_add, Nat.reduceAdd]
  refine hK _ _ ⟨fun _ => HS.out, ?_⟩; clear hK K
  refine mix_op_g rfl (by rfl) (fun K hK => ?_)
  go_wp2_with fail
  refine (compare_any 10 tB tQ none A9 0 c9 y4 (by decide) (by decide) (by decide) (HX4.out.below HS.out).2 HR9.out).mono ?_
  rintro e y5 ⟨rfl, hl⟩
  have hS := below_then HS.out hl.below HS.out.size; clear hl HS
  have HS := Lib.hid hS; clear hS
  rw [cmpBQ]
  clear HR9
  refine hK _ _ ⟨fun _ => HS.out, ?_⟩; clear hK K
  refine mix_op_g rfl (by rfl) (fun K hK => ?_)
  go_wp2_with fail
  refine ⟨fun _ => HS.out, ?_⟩
  refine mix_op_g rfl (by rfl) (fun K hK => ?_)
  go_wp2_with fail
  refine ⟨fun _ => HS.out, ?_⟩
  refine mix_op_g rfl (by rfl) (fun K hK => ?_)
  go_wp2_with fail
  refine ⟨fun _ => HS.out, ?_⟩
  refine mix_take_g (v := .agg #[.int .i64 3, .string ⟨#[102]⟩, .int .i64 0, .slice A5 2 c5]) rfl (by rfl) (fun _ _ _ h => h) HS.out (fun X hX => by obtain ⟨g0, g1, g2, g3⟩ := HC5.out X hX; (try simp only [Act.put]); go_simp) ?_
  refine mix_take_g (v := .agg #[.int .i64 2, .string ⟨#[97]⟩, .int .i64 0, .slice none 0 0]) rfl (by rfl) (fun _ _ _ h => h) HS.out (fun X hX => by obtain ⟨g0, g1, g2, g3⟩ := HC3.out X hX; (try simp only [Act.put]); go_simp) ?_
  refine mix_take_g (v := .agg #[.int .i64 3, .string ⟨#[102]⟩, .int .i64 0, .slice A5 2 c5]) rfl (by rfl) (fun _ _ _ h => h) HS.out (fun X hX => by obtain ⟨g0, g1, g2, g3⟩ := HC5.out X hX; (try simp only [Act.put]); go_simp) ?_
  simp only [Act.put, List.setIfInBounds_toArray]
  clear HC1 HC3 HC4 HC5 HX1 HX4
  refine mix_two ?_ ?_
  · skip
    refine mix_op_g rfl (by rfl) (fun K hK => ?_)
    go_wp2_with fail
    refine ⟨fun _ => HS.out.alloc HS.out.size _, ?_⟩
    obtain ⟨Z2, hZ2⟩ : ∃ Z, Z = y5.alloc (.cells #[.int .i64 3, .string ⟨#[102]⟩, .int .i64 0, .slice A5 2 c5] 24) := ⟨_, rfl⟩
    have hS : Below W0.heap.size W0 Z2 := by rw [hZ2]; exact HS.out.alloc HS.out.size _
    have hzZ2 : Below y5.heap.size y5 Z2 := by rw [hZ2]; exact below1 (Nat.le_refl _) _
    have hsF : RepS Z2 (fun b => b < Z2.heap.size) [tF] (some ⟨y5.heap.size, 0, none⟩) 1 :=
      repS_cells [(tF, A5, c5)] (by rw [hZ2]; exact heap_alloc_new _ _) (by rw [hZ2]; simp) (fun x hx => by
        simp only [List.mem_cons, List.not_mem_nil, or_false] at hx
        subst hx; exact (HX5.out.below hS).2) (by simp)
    clear HS; rw [← hZ2]; clear hZ2
    have HS := Lib.hid hS; clear hS
    refine mix_two ?_ ?_
    · skip
      refine mix_op_g rfl (by rfl) (fun K hK => ?_)
      go_wp2_with fail
      refine (subterms_any [tF] _ 1 Z2 (by decide) hsF).mono ?_
      rintro e y6 ⟨v6, its, rfl, hrow, hb6, hm⟩
      have hS := below_then HS.out hb6 HS.out.size; clear HS
      have HS := Lib.hid hS; clear hS
      rw [subF] at hm
      obtain ⟨A', c', rfl, hsI⟩ := hrow.toS (P := fun b => b < y6.heap.size) (fun b _ h => h) (fun b _ h => h)
      clear hrow
      refine hK _ _ ⟨fun _ => HS.out, ?_⟩; clear hK K
      refine mix_op_g rfl (by rfl) (fun K hK => ?_)
      go_wp2_with fail
      refine ⟨fun _ => HS.out.alloc HS.out.size _, ?_⟩
      obtain ⟨Z3, hZ3⟩ : ∃ Z, Z = y6.alloc (.cells #[.int .i64 2, .string ⟨#[97]⟩, .int .i64 0, .slice none 0 0, .int .i64 3, .string ⟨#[102]⟩, .int .i64 0, .slice A5 2 c5] 24) := ⟨_, rfl⟩
      have hS : Below W0.heap.size W0 Z3 := by rw [hZ3]; exact HS.out.alloc HS.out.size _
      have hzZ3 : Below y6.heap.size y6 Z3 := by rw [hZ3]; exact below1 (Nat.le_refl _) _
      have hsM : RepS Z3 (fun b => b < Z3.heap.size) [tA, tF] (some ⟨y6.heap.size, 0, none⟩) 2 :=
        repS_cells [(tA, none, 0), (tF, A5, c5)] (by rw [hZ3]; exact heap_alloc_new _ _) (by rw [hZ3]; simp) (fun x hx => by
          simp only [List.mem_cons, List.not_mem_nil, or_false] at hx
          rcases hx with rfl | rfl
          · exact (HX3.out.below hS).2
          · exact (HX5.out.below hS).2) (by simp)
      clear HS; rw [← hZ3]; clear hZ3
      have HS := Lib.hid hS; clear hS
      replace hsI := RepS.up (hsI.below hzZ3) hzZ3.size
      clear hzZ3 hzZ2 hsF hb6
      refine mix_op_g rfl (by rfl) (fun K hK => ?_)
      go_wp2_with fail
      refine (lists_true its _ A' _ c' Z3 hm hsI hsM).mono ?_
      rintro e y7 ⟨rfl, hl⟩
      have hS := below_then HS.out hl.below HS.out.size; clear hl HS
      have HS := Lib.hid hS; clear hS
      clear hsI hsM
      refine hK _ _ ⟨fun _ => HS.out, ?_⟩; clear hK K
      refine mix_op_g rfl (by rfl) (fun K hK => ?_)
      go_wp2_with fail
      refine ⟨fun _ => HS.out, ?_⟩
      refine mix_op_g rfl (by rfl) (fun K hK => ?_)
      go_wp2_with fail
      refine ⟨fun _ => HS.out, mix_nil ?_⟩
      go_wp2_with fail
      go_ret
      exact ⟨rfl, below_then HB.out HS.out HB.out.size⟩
    · skip
      refine mix_op_g rfl (by rfl) (fun K hK => ?_)
      go_wp2_with fail
      refine ⟨fun _ => HS.out.alloc HS.out.size _, ?_⟩
      obtain ⟨Z3, hZ3⟩ : ∃ Z, Z = Z2.alloc (.cells #[.int .i64 2, .string ⟨#[97]⟩, .int .i64 0, .slice none 0 0, .int .i64 3, .string ⟨#[102]⟩, .int .i64 0, .slice A5 2 c5] 24) := ⟨_, rfl⟩
      have hS : Below W0.heap.size W0 Z3 := by rw [hZ3]; exact HS.out.alloc HS.out.size _
      have hzZ3 : Below Z2.heap.size Z2 Z3 := by rw [hZ3]; exact below1 (Nat.le_refl _) _
      have hsM : RepS Z3 (fun b => b < Z3.heap.size) [tA, tF] (some ⟨Z2.heap.size, 0, none⟩) 2 :=
        repS_cells [(tA, none, 0), (tF, A5, c5)] (by rw [hZ3]; exact heap_alloc_new _ _) (by rw [hZ3]; simp) (fun x hx => by
          simp only [List.mem_cons, List.not_mem_nil, or_false] at hx
          rcases hx with rfl | rfl
          · exact (HX3.out.below hS).2
          · exact (HX5.out.below hS).2) (by simp)
      clear HS; rw [← hZ3]; clear hZ3
      have HS := Lib.hid hS; clear hS
      replace hsF := RepS.up (hsF.below hzZ3) hzZ3.size
      refine mix_op_g rfl (by rfl) (fun K hK => ?_)
      go_wp2_with fail
      refine (subterms_any [tF] _ 1 Z3 (by decide) hsF).mono ?_
      rintro e y6 ⟨v6, its, rfl, hrow, hb6, hm⟩
      have hS := below_then HS.out hb6 HS.out.size; clear HS
      have HS := Lib.hid hS; clear hS
      rw [subF] at hm
      obtain ⟨A', c', rfl, hsI⟩ := hrow.toS (P := fun b => b < y6.heap.size) (fun b _ h => h) (fun b _ h => h)
      clear hrow
      refine hK _ _ ⟨fun _ => HS.out, ?_⟩; clear hK K
      replace hsM := RepS.up (hsM.below hb6) hb6.size
      clear hzZ3 hzZ2 hsF hb6
      refine mix_op_g rfl (by rfl) (fun K hK => ?_)
      go_wp2_with fail
      refine (lists_true its _ A' _ c' y6 hm hsI hsM).mono ?_
      rintro e y7 ⟨rfl, hl⟩
      have hS := below_then HS.out hl.below HS.out.size; clear hl HS
      have HS := Lib.hid hS; clear hS
      clear hsI hsM
      refine hK _ _ ⟨fun _ => HS.out, ?_⟩; clear hK K
      refine mix_op_g rfl (by rfl) (fun K hK => ?_)
      go_wp2_with fail
      refine ⟨fun _ => HS.out, ?_⟩
      refine mix_op_g rfl (by rfl) (fun K hK => ?_)
      go_wp2_with fail
      refine ⟨fun _ => HS.out, mix_nil ?_⟩
      go_wp2_with fail
      go_ret
      exact ⟨rfl, below_then HB.out HS.out HB.out.size⟩
  · skip
    refine mix_op_g rfl (by rfl) (fun K hK => ?_)
    go_wp2_with fail
    refine ⟨fun _ => HS.out.alloc HS.out.size _, ?_⟩
    obtain ⟨Z3, hZ3⟩ : ∃ Z, Z = y5.alloc (.cells #[.int .i64 2, .string ⟨#[97]⟩, .int .i64 0, .slice none 0 0, .int .i64 3, .string ⟨#[102]⟩, .int .i64 0, .slice A5 2 c5] 24) := ⟨_, rfl⟩
    have hS : Below W0.heap.size W0 Z3 := by rw [hZ3]; exact HS.out.alloc HS.out.size _
    have hzZ3 : Below y5.heap.size y5 Z3 := by rw [hZ3]; exact below1 (Nat.le_refl _) _
    have hsM : RepS Z3 (fun b => b < Z3.heap.size) [tA, tF] (some ⟨y5.heap.size, 0, none⟩) 2 :=
      repS_cells [(tA, none, 0), (tF, A5, c5)] (by rw [hZ3]; exact heap_alloc_new _ _) (by rw [hZ3]; simp) (fun x hx => by
        simp only [List.mem_cons, List.not_mem_nil, or_false] at hx
        rcases hx with rfl | rfl
        · exact (HX3.out.below hS).2
        · exact (HX5.out.below hS).2) (by simp)
    clear HS; rw [← hZ3]; clear hZ3
    have HS := Lib.hid hS; clear hS
    refine mix_op_g rfl (by rfl) (fun K hK => ?_)
    go_wp2_with fail
    refine ⟨fun _ => HS.out.alloc HS.out.size _, ?_⟩
    obtain ⟨Z2, hZ2⟩ : ∃ Z, Z = Z3.alloc (.cells #[.int .i64 3, .string ⟨#[102]⟩, .int .i64 0, .slice A5 2 c5] 24) := ⟨_, rfl⟩
    have hS : Below W0.heap.size W0 Z2 := by rw [hZ2]; exact HS.out.alloc HS.out.size _
    have hzZ2 : Below Z3.heap.size Z3 Z2 := by rw [hZ2]; exact below1 (Nat.le_refl _) _
    have hsF : RepS Z2 (fun b => b < Z2.heap.size) [tF] (some ⟨Z3.heap.size, 0, none⟩) 1 :=
      repS_cells [(tF, A5, c5)] (by rw [hZ2]; exact heap_alloc_new _ _) (by rw [hZ2]; simp) (fun x hx => by
        simp only [List.mem_cons, List.not_mem_nil, or_false] at hx
        subst hx; exact (HX5.out.below hS).2) (by simp)
    clear HS; rw [← hZ2]; clear hZ2
    have HS := Lib.hid hS; clear hS
    replace hsM := RepS.up (hsM.below hzZ2) hzZ2.size
    refine mix_op_g rfl (by rfl) (fun K hK => ?_)
    go_wp2_with fail
    refine (subterms_any [tF] _ 1 Z2 (by decide) hsF).mono ?_
    rintro e y6 ⟨v6, its, rfl, hrow, hb6, hm⟩
    have hS := below_then HS.out hb6 HS.out.size; clear HS
    have HS := Lib.hid hS; clear hS
    rw [subF] at hm
    obtain ⟨A', c', rfl, hsI⟩ := hrow.toS (P := fun b => b < y6.heap.size) (fun b _ h => h) (fun b _ h => h)
    clear hrow
    refine hK _ _ ⟨fun _ => HS.out, ?_⟩; clear hK K
    replace hsM := RepS.up (hsM.below hb6) hb6.size
    clear hzZ3 hzZ2 hsF hb6
    refine mix_op_g rfl (by rfl) (fun K hK => ?_)
    go_wp2_with fail
    refine (lists_true its _ A' _ c' y6 hm hsI hsM).mono ?_
    rintro e y7 ⟨rfl, hl⟩
    have hS := below_then HS.out hl.below HS.out.size; clear hl HS
    have HS := Lib.hid hS; clear hS
    clear hsI hsM
    refine hK _ _ ⟨fun _ => HS.out, ?_⟩; clear hK K
    refine mix_op_g rfl (by rfl) (fun K hK => ?_)
    go_wp2_with fail
    refine ⟨fun _ => HS.out, ?_⟩
    refine mix_op_g rfl (by rfl) (fun K hK => ?_)
    go_wp2_with fail
    refine ⟨fun _ => HS.out, mix_nil ?_⟩
    go_wp2_with fail
    go_ret
    exact ⟨rfl, below_then HB.out HS.out HB.out.size⟩
end Go.Proofs.YtbgkabgbgbebaaaDoor
