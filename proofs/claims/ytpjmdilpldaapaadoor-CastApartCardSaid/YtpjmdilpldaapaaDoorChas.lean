/- The reference's Has. -/
import Derived.Test.YtpjmdilpldaapaaDoorGh
namespace Go.Proofs.YtpjmdilpldaapaaDoor
open Go.RowKit Go.Sort

instance tmDec : DecidableEq Tm := fun a b => decidable_of_iff (a.cmp b = 0) Tm.cmp_zero
def boxT (t : Tm) (A : Option Addr) (c : Nat) : Obj := .cells #[.int .i64 t.kind, .string t.name, .int .i64 t.sort, .slice A t.kids.length c] 35
structure One (w : World) (x : Tm) (A : Option Addr) (c : Nat) (V : World) : Prop where
  lay : Lay w.heap.size w V
  one : V.heap[w.heap.size]? = some (boxT x A c)
theorem One.new (w : World) (x : Tm) (A : Option Addr) (c : Nat) : One w x A c (w.alloc (boxT x A c)) := ⟨(Lay.refl _ _).alloc (Nat.le_refl _) _, heap_alloc_new _ _⟩
theorem One.lt {w V : World} {x : Tm} {A : Option Addr} {c : Nat} (h : One w x A c V) : w.heap.size < V.heap.size := (Array.getElem?_eq_some_iff.1 h.one).1
theorem One.go {w V W : World} {x : Tm} {A : Option Addr} {c : Nat} (h : One w x A c V) (hl : Lay V.heap.size V W) : One w x A c W :=
  ⟨h.lay.trans (hl.mono h.lay.size), (hl.below.block _ h.lt).trans h.one⟩
def hasT (l : List Tm) (x : Tm) : Bool := l.any (fun t => t.same x)
theorem hasT_iff {l : List Tm} {x : Tm} : hasT l x = decide (x ∈ l) := by
  rw [Bool.eq_iff_iff]
  simp only [hasT, List.any_eq_true, decide_eq_true_eq, Tm.same_iff]
  exact ⟨fun ⟨t, h, e⟩ => e ▸ h, fun h => ⟨x, h, rfl⟩⟩
theorem any_drop {α : Type} (f : α → Bool) (l : List α) (k : Nat) (h : k < l.length) : (l.drop k).any f = (f l[k] || (l.drop (k + 1)).any f) := by
  rw [List.drop_eq_getElem_cons h, List.any_cons]

set_option maxHeartbeats 1200000 in
set_option maxRecDepth 100000 in
theorem rhas_any (l : List Tm) (A0 : Option Addr) (cap0 : Nat) (x : Tm) (A : Option Addr) (c : Nat) (w : World) (hsz : ∀ t ∈ l, t.size ≤ 1000000) (hx : x.size ≤ 1000000) (hrep : RepS w (fun b => b < w.heap.size) l A0 cap0) (hrx : RepT w w.heap.size x A c) :
    Calls Tryd.prog 22 #[.slice A0 l.length cap0, x.val A c] w fun e w' => e = .returned (.bool (hasT l x)) ∧ Lay w.heap.size w w' := by
  have mixed : Tryd.prog.follows .mixedOrders = true := by kernel_rfl
  obtain ⟨V, hV⟩ : ∃ V, V = w.alloc (.cells #[.int .i64 x.kind, .string x.name, .int .i64 x.sort, .slice A x.kids.length c] 35) := ⟨_, rfl⟩
  have h2 : One w x A c V := by rw [hV]; exact One.new w x A c
  obtain ⟨u, hu⟩ : ∃ u, u = hasT l x := ⟨_, rfl⟩
  rw [← hu]
  have HU : Hid (u = (l.drop 0).any (fun t => t.same x)) := hu; clear hu
  obtain ⟨h0, h1, h3⟩ := hrep
  unfold maxLen at h1
  have HSZ := Lib.hid hsz; clear hsz
  have HRX := Lib.hid hrx; clear hrx
  have HV := Lib.hid hV; clear hV
  have H2 := Lib.hid h2; clear h2
  simp only [Tm.val]
  go_enter Tryd.func22, Tryd.ntmps22
  go_wp2_with fail
  rw [← HV.out]
  go_loopw [5] (fun i wr => ∃ k : Nat, k ≤ l.length ∧ i = .int .i64 k ∧ Hid (u = (l.drop k).any (fun t => t.same x)) ∧ Hid (One w x A c wr)) (fun i _ => l.length - (intOf i).toNat)
  case atStart => exact ⟨0, Nat.zero_le _, rfl, HU, H2⟩
  case round =>
    obtain ⟨k, hk, rfl, HG, HT⟩ := hrel
    have i1 : (0 : Int) ≤ (k : Int) := Int.natCast_nonneg _
    have hlt2 := HT.out.lt
    by_cases hlt : k < l.length
    · have i2 : (k : Int) < (l.length : Int) := by omega
      rcases h3 with rfl | ⟨kb, off, rfl, hbB, hl⟩
      · simp at hlt
      have hlr : RepLP wr (fun b => b < w.heap.size) l kb off := RepLP.mono (fun _ h => h) (fun p hp => HT.out.lay.below.cell hp) _ _ _ hbB hl
      obtain ⟨A1, c1, t0, t1, t2, t3, hr1⟩ := hlr.get k hlt
      have hb1 := HSZ.out l[k] (List.getElem_mem hlt)
      have hss := HT.out.lay.size
      have C1 : Hid (∀ X, Lay wr.heap.size wr X → Calls Tryd.prog 18 #[l[k].val A1 c1, x.val A c] X fun e w' => e = .returned (.bool (l[k].same x)) ∧ Lay X.heap.size X w') := Lib.hid fun X hX =>
        rsame_any _ _ _ _ _ _ X hb1 hx (RepP.mono (fun b (h : b < w.heap.size) => by have := hX.size; omega) (fun p (hp : p.block < w.heap.size) => hX.below.cell (by omega)) _ _ _ hr1)
          (HRX.out.go (below_then HT.out.lay.below hX.below hss) (Nat.le_trans hss hX.size))
      have hst := any_drop (fun t => t.same x) l k hlt
      rw [← HG.out] at hst
      obtain ⟨q1, hq1⟩ : ∃ c, c = l[k].same x := ⟨_, rfl⟩
      rw [← hq1] at C1 hst
      clear hq1
      have hcell : ∀ n os o, (grow (wr.drewN n) os).cell? ⟨kb, o, none⟩ = wr.cell? ⟨kb, o, none⟩ := fun n os o => (Lay.of_grow (w := wr) n os).below.cell (by show kb < _; omega)
      have p0 := fun n os => (hcell n os _).trans t0
      have p1 := fun n os => (hcell n os _).trans t1
      have p2 := fun n os => (hcell n os _).trans t2
      have p3 := fun n os => (hcell n os _).trans t3
      obtain ⟨d0, d1, d2, d3, -⟩ := box_at HT.out.one
      have hcellx : ∀ n os o, (grow (wr.drewN n) os).cell? ⟨w.heap.size, o, none⟩ = wr.cell? ⟨w.heap.size, o, none⟩ := fun n os o => (Lay.of_grow (w := wr) n os).below.cell (by show w.heap.size < _; omega)
      have y0 := fun n os => (hcellx n os _).trans d0
      have y1 := fun n os => (hcellx n os _).trans d1
      have y2 := fun n os => (hcellx n os _).trans d2
      have y3 := fun n os => (hcellx n os _).trans d3
      clear hcell hcellx hl hlr d0 d1 d2 d3 t0 t1 t2 t3 hr1
      simp only [Tm.val] at C1
      have HST := Lib.hid hst; clear hst
      cases q1 with
      | true =>
        have hE : u = true := by rw [HST.out, Bool.true_or]
        subst hE
        clear HST
        go_wp2_with fail
        go_quiet_grown ((go_at_call 18; with_reducible exact quiet_lay (C1.out _ (Lay.of_grow _ _))))
        go_wp2_with fail
        go_ret
        exact ⟨rfl, HT.out.lay.trans ((Lay.of_grow _ _).mono hss)⟩
      | false =>
        have HE : Hid (u = (l.drop (k + 1)).any (fun t => t.same x)) := by rw [HST.out, Bool.false_or]; exact rfl
        clear HST
        go_wp2_with fail
        go_quiet_grown ((go_at_call 18; with_reducible exact quiet_lay (C1.out _ (Lay.of_grow _ _))))
        go_wp2_with fail
        go_roundw
        case rel => exact ⟨k + 1, by omega, by go_num, HE, HT.out.go (Lay.of_grow _ _)⟩
        case measure => simp [intOf]; omega
    · obtain rfl : k = l.length := by omega
      have hE : u = false := by have := HG.out; rw [List.drop_length] at this; exact this
      subst hE
      go_wp2_with fail
      go_ret
      exact ⟨rfl, HT.out.lay⟩
end Go.Proofs.YtpjmdilpldaapaaDoor
