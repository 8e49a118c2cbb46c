/- The reference's Get and bound. -/
import Derived.Test.YtkbkgiihgghbeaaDoorSapply
namespace Go.Proofs.YtkbkgiihgghbeaaDoor
open Go.RowKit Go.Sort

theorem rep_set4 {w Y : World} {P : Nat → Prop} {t : Tm} {A : Option Addr} {c b : Nat} (hb : w.heap.size ≤ b) (h : RepP Y P t A c) (hP : ∀ k, P k → k < w.heap.size) {x y z v : Value} :
    RepP ((((Y.setCell ⟨b, 0, none⟩ x).setCell ⟨b, 1, none⟩ y).setCell ⟨b, 2, none⟩ z).setCell ⟨b, 3, none⟩ v) P t A c := by
  refine RepP.mono (fun _ h => h) ?_ _ _ _ h
  intro q h1
  have h1 := hP _ h1
  have hq : ∀ o, (⟨b, o, none⟩ : Addr) ≠ q := fun o e => by rw [← e] at h1; simp at h1; omega
  rw [World.cell?_setCell_other _ _ _ _ (hq _), World.cell?_setCell_other _ _ _ _ (hq _), World.cell?_setCell_other _ _ _ _ (hq _), World.cell?_setCell_other _ _ _ _ (hq _)]
theorem getS_drop (l : List Bd) (x : Tm) (k : Nat) (h : k < l.length) : getS (l.drop k) x = if l[k].1 = x then l[k].2 else getS (l.drop (k + 1)) x := by
  rw [List.drop_eq_getElem_cons h, getS]
theorem hasS_drop (l : List Bd) (x : Tm) (k : Nat) (h : k < l.length) : hasS (l.drop k) x = if l[k].1 = x then true else hasS (l.drop (k + 1)) x := by
  rw [List.drop_eq_getElem_cons h, hasS]

def Got (P : Nat → Prop) (t : Tm) (w : World) (e : Ending) (w' : World) : Prop := ∃ A c, e = .returned (t.val A c) ∧ RepP w' P t A c ∧ Lay w.heap.size w w'
set_option maxHeartbeats 1200000 in
set_option maxRecDepth 100000 in
theorem rget_any (B : Nat) (l : List Bd) (A0 : Option Addr) (cap0 : Nat) (x : Tm) (A : Option Addr) (c : Nat) (w : World) (hsz : SizeB l) (hx : x.size ≤ 1000000) (hB : B ≤ w.heap.size) (hrep : RepB w (fun b => b < B) l A0 cap0) (hrx : RepP w (fun b => b < B) x A c) :
    Calls Tryd.prog 77 #[.slice A0 l.length cap0, x.val A c] w (Got (fun b => b < B) (getS l x) w) := by
  have mixed : Tryd.prog.follows .mixedOrders = true := by kernel_rfl
  obtain ⟨V, hV⟩ : ∃ V, V = (w.alloc (.cells #[.int .i64 x.kind, .string x.name, .int .i64 x.sort, .slice A x.kids.length c] 30)).alloc (.cells #[.int .i64 0, .string ⟨#[]⟩, .int .i64 0, .slice none 0 0] 30) := ⟨_, rfl⟩
  have h2 : Two w x (.mk 0 ⟨#[]⟩ 0 []) A none c 0 V := by rw [hV]; exact Two.new w x (.mk 0 ⟨#[]⟩ 0 []) A none c 0
  obtain ⟨u, hu⟩ : ∃ u, u = getS l x := ⟨_, rfl⟩
  rw [← hu]
  have HU : Hid (u = getS (l.drop 0) x) := hu; clear hu
  obtain ⟨h0, h1, h3⟩ := hrep
  unfold maxLen at h1
  have HSZ := Lib.hid hsz; clear hsz
  have HRX := Lib.hid hrx; clear hrx
  have HV := Lib.hid hV; clear hV
  have H2 := Lib.hid h2; clear h2
  simp only [Tm.val]
  go_enter Tryd.func77, Tryd.ntmps77
  go_wp2_with fail
  rw [← HV.out]
  go_loopw [5] (fun i wr => ∃ k : Nat, k ≤ l.length ∧ i = .int .i64 k ∧ Hid (u = getS (l.drop k) x) ∧ Hid (Two w x (.mk 0 ⟨#[]⟩ 0 []) A none c 0 wr)) (fun i _ => l.length - (intOf i).toNat)
  case atStart => exact ⟨0, Nat.zero_le _, rfl, HU, H2⟩
  case round =>
    obtain ⟨k, hk, rfl, HG, HT⟩ := hrel
    have i1 : (0 : Int) ≤ (k : Int) := Int.natCast_nonneg _
    have hlt2 := HT.out.lt
    by_cases hlt : k < l.length
    · have i2 : (k : Int) < (l.length : Int) := by omega
      rcases h3 with rfl | ⟨kb, off, rfl, hbB, hl⟩
      · simp at hlt
      have hlr : RepLP wr (fun b => b < B) (flat l) kb off := RepLP.mono (fun _ h => h) (fun p (hp : p.block < B) => HT.out.lay.below.cell (by omega)) _ _ _ hbB hl
      obtain ⟨A1, c1, A2, c2, h8⟩ := hlr.get8 k hlt
      obtain ⟨hb1, hb2⟩ := HSZ.out l[k] (List.getElem_mem hlt)
      have hss := HT.out.lay.size
      have C1 : Hid (∀ X, Lay wr.heap.size wr X → Calls Tryd.prog 23 #[l[k].1.val A1 c1, x.val A c] X fun e w' => e = .returned (.bool (l[k].1.same x)) ∧ Lay X.heap.size X w') := Lib.hid fun X hX =>
        rsame_any _ _ _ _ _ _ X hb1 hx (RepP.mono (fun b (h : b < B) => by have := hX.size; omega) (fun p (hp : p.block < B) => hX.below.cell (by omega)) _ _ _ h8.r1)
          (RepP.mono (fun b (h : b < B) => by have := hX.size; omega) (fun p (hp : p.block < B) => (below_then HT.out.lay.below hX.below hss).cell (by omega)) _ _ _ HRX.out)
      obtain ⟨q1, hq1⟩ : ∃ c, c = l[k].1.same x := ⟨_, rfl⟩
      rw [← hq1] at C1
      have HQ1 := Lib.hid hq1; clear hq1
      have hcell : ∀ n os o, (grow (wr.drewN n) os).cell? ⟨kb, o, none⟩ = wr.cell? ⟨kb, o, none⟩ := fun n os o => (Lay.of_grow (w := wr) n os).below.cell (by show kb < _; omega)
      have p0 := fun n os => (hcell n os _).trans h8.c0
      have p1 := fun n os => (hcell n os _).trans h8.c1
      have p2 := fun n os => (hcell n os _).trans h8.c2
      have p3 := fun n os => (hcell n os _).trans h8.c3
      have p4 := fun n os => (hcell n os _).trans h8.c4
      have p5 := fun n os => (hcell n os _).trans h8.c5
      have p6 := fun n os => (hcell n os _).trans h8.c6
      have p7 := fun n os => (hcell n os _).trans h8.c7
      obtain ⟨d0, d1, d2, d3, -⟩ := box_at HT.out.one
      obtain ⟨e0, e1, e2, e3, ef⟩ := box_at HT.out.two
      have hcellx : ∀ n os o, (grow (wr.drewN n) os).cell? ⟨w.heap.size, o, none⟩ = wr.cell? ⟨w.heap.size, o, none⟩ := fun n os o => (Lay.of_grow (w := wr) n os).below.cell (by show w.heap.size < _; omega)
      have y0 := fun n os => (hcellx n os _).trans d0
      have y1 := fun n os => (hcellx n os _).trans d1
      have y2 := fun n os => (hcellx n os _).trans d2
      have y3 := fun n os => (hcellx n os _).trans d3
      have hcellz : ∀ n os o, (grow (wr.drewN n) os).cell? ⟨w.heap.size + 1, o, none⟩ = wr.cell? ⟨w.heap.size + 1, o, none⟩ := fun n os o => (Lay.of_grow (w := wr) n os).below.cell (by show w.heap.size + 1 < _; omega)
      have z0 := fun n os => (hcellz n os _).trans e0
      have z1 := fun n os => (hcellz n os _).trans e1
      have z2 := fun n os => (hcellz n os _).trans e2
      have z3 := fun n os => (hcellz n os _).trans e3
      have zf : ∀ n os o, (grow (wr.drewN n) os).frozen? ⟨w.heap.size + 1, o, none⟩ = false := fun n os o => ((Lay.of_grow (w := wr) n os).below.frozen (by show w.heap.size + 1 < _; omega)).trans (ef o)
      have HR2 := Lib.hid h8.r2
      clear hcell hcellx hcellz hl hlr h8 d0 d1 d2 d3 e0 e1 e2 e3 ef
      simp only [Tm.val] at C1
      have hgd := getS_drop l x k hlt
      rw [← HG.out] at hgd
      have HGD := Lib.hid hgd; clear hgd
      cases q1 with
      | true =>
        have HE : Hid (u = l[k].2) := by have := HGD.out; rw [if_pos (Tm.same_iff.1 HQ1.out.symm)] at this; exact this
        clear HGD
        go_wp2_with fail
        go_quiet_grown ((go_at_call 23; with_reducible exact quiet_lay (C1.out _ (Lay.of_grow _ _))))
        go_wp2_with fail
        refine bodyPost_ret (v := l[k].2.val A2 c2) ?_ rfl ?_
        · simp [results, Tryd.results77, go_sem, z0, z1, z2, z3, Tm.val]
        rw [HE.out]
        have hlg := Lay.of_grow (w := wr) nq osq
        exact ⟨A2, c2, rfl, rep_set4 (Nat.le_succ _) (RepP.mono (fun _ h => h) (fun p (hp : p.block < B) => hlg.below.cell (by omega)) _ _ _ HR2.out) (fun k hk => by show k < w.heap.size; omega), setFour_lay (HT.out.lay.trans (hlg.mono hss)) (Nat.le_succ _)⟩
      | false =>
        have HE : Hid (u = getS (l.drop (k + 1)) x) := by have := HGD.out; rw [if_neg (Tm.same_false.1 HQ1.out.symm)] at this; exact this
        clear HGD
        go_wp2_with fail
        go_quiet_grown ((go_at_call 23; with_reducible exact quiet_lay (C1.out _ (Lay.of_grow _ _))))
        go_wp2_with fail
        go_roundw
        case rel => exact ⟨k + 1, by omega, by go_num, HE, HT.out.go (Lay.of_grow _ _)⟩
        case measure => simp [intOf]; omega
    · obtain rfl : k = l.length := by omega
      have HE : Hid (u = x) := by have := HG.out; rw [List.drop_length] at this; exact this
      obtain ⟨d0, d1, d2, d3, -⟩ := box_at HT.out.one
      obtain ⟨e0, e1, e2, e3, ef⟩ := box_at HT.out.two
      go_wp2_with fail
      refine bodyPost_ret (v := x.val A c) ?_ rfl ?_
      · simp [results, Tryd.results77, go_sem, e0, e1, e2, e3, Tm.val]
      rw [HE.out]
      exact ⟨A, c, rfl, rep_set4 (Nat.le_succ _) (RepP.mono (fun _ h => h) (fun p (hp : p.block < B) => HT.out.lay.below.cell (by omega)) _ _ _ HRX.out) (fun k hk => by show k < w.heap.size; omega), setFour_lay HT.out.lay (Nat.le_succ _)⟩

/-- one box, and nothing old has turned -/
structure One (w : World) (x : Tm) (A : Option Addr) (c : Nat) (V : World) : Prop where
  lay : Lay w.heap.size w V
  one : V.heap[w.heap.size]? = some (boxT x A c)
theorem One.new (w : World) (x : Tm) (A : Option Addr) (c : Nat) : One w x A c (w.alloc (boxT x A c)) := ⟨(Lay.refl _ _).alloc (Nat.le_refl _) _, heap_alloc_new _ _⟩
theorem One.lt {w V : World} {x : Tm} {A : Option Addr} {c : Nat} (h : One w x A c V) : w.heap.size < V.heap.size := (Array.getElem?_eq_some_iff.1 h.one).1
theorem One.go {w V W : World} {x : Tm} {A : Option Addr} {c : Nat} (h : One w x A c V) (hl : Lay V.heap.size V W) : One w x A c W :=
  ⟨h.lay.trans (hl.mono h.lay.size), (hl.below.block _ h.lt).trans h.one⟩
set_option maxHeartbeats 1200000 in
set_option maxRecDepth 100000 in
theorem rbound_any (l : List Bd) (A0 : Option Addr) (cap0 : Nat) (x : Tm) (A : Option Addr) (c : Nat) (w : World) (hsz : SizeB l) (hx : x.size ≤ 1000000) (hrep : RepB w (fun b => b < w.heap.size) l A0 cap0) (hrx : RepT w w.heap.size x A c) :
    Calls Tryd.prog 50 #[.slice A0 l.length cap0, x.val A c] w fun e w' => e = .returned (.bool (hasS l x)) ∧ Lay w.heap.size w w' := by
  have mixed : Tryd.prog.follows .mixedOrders = true := by kernel_rfl
  obtain ⟨V, hV⟩ : ∃ V, V = w.alloc (.cells #[.int .i64 x.kind, .string x.name, .int .i64 x.sort, .slice A x.kids.length c] 30) := ⟨_, rfl⟩
  have h2 : One w x A c V := by rw [hV]; exact One.new w x A c
  obtain ⟨u, hu⟩ : ∃ u, u = hasS l x := ⟨_, rfl⟩
  rw [← hu]
  have HU : Hid (u = hasS (l.drop 0) x) := hu; clear hu
  obtain ⟨h0, h1, h3⟩ := hrep
  unfold maxLen at h1
  have HSZ := Lib.hid hsz; clear hsz
  have HRX := Lib.hid hrx; clear hrx
  have HV := Lib.hid hV; clear hV
  have H2 := Lib.hid h2; clear h2
  simp only [Tm.val]
  go_enter Tryd.func50, Tryd.ntmps50
  go_wp2_with fail
  rw [← HV.out]
  go_loopw [5] (fun i wr => ∃ k : Nat, k ≤ l.length ∧ i = .int .i64 k ∧ Hid (u = hasS (l.drop k) x) ∧ Hid (One w x A c wr)) (fun i _ => l.length - (intOf i).toNat)
  case atStart => exact ⟨0, Nat.zero_le _, rfl, HU, H2⟩
  case round =>
    obtain ⟨k, hk, rfl, HG, HT⟩ := hrel
    have i1 : (0 : Int) ≤ (k : Int) := Int.natCast_nonneg _
    have hlt2 := HT.out.lt
    by_cases hlt : k < l.length
    · have i2 : (k : Int) < (l.length : Int) := by omega
      rcases h3 with rfl | ⟨kb, off, rfl, hbB, hl⟩
      · simp at hlt
      have hlr : RepLP wr (fun b => b < w.heap.size) (flat l) kb off := RepLP.mono (fun _ h => h) (fun p hp => HT.out.lay.below.cell hp) _ _ _ hbB hl
      obtain ⟨A1, c1, A2, c2, h8⟩ := hlr.get8 k hlt
      obtain ⟨hb1, hb2⟩ := HSZ.out l[k] (List.getElem_mem hlt)
      have hss := HT.out.lay.size
      have C1 : Hid (∀ X, Lay wr.heap.size wr X → Calls Tryd.prog 23 #[l[k].1.val A1 c1, x.val A c] X fun e w' => e = .returned (.bool (l[k].1.same x)) ∧ Lay X.heap.size X w') := Lib.hid fun X hX =>
        rsame_any _ _ _ _ _ _ X hb1 hx (RepP.mono (fun b (h : b < w.heap.size) => by have := hX.size; omega) (fun p (hp : p.block < w.heap.size) => hX.below.cell (by omega)) _ _ _ h8.r1)
          (HRX.out.go (below_then HT.out.lay.below hX.below hss) (Nat.le_trans hss hX.size))
      obtain ⟨q1, hq1⟩ : ∃ c, c = l[k].1.same x := ⟨_, rfl⟩
      rw [← hq1] at C1
      have HQ1 := Lib.hid hq1; clear hq1
      have hcell : ∀ n os o, (grow (wr.drewN n) os).cell? ⟨kb, o, none⟩ = wr.cell? ⟨kb, o, none⟩ := fun n os o => (Lay.of_grow (w := wr) n os).below.cell (by show kb < _; omega)
      have p0 := fun n os => (hcell n os _).trans h8.c0
      have p1 := fun n os => (hcell n os _).trans h8.c1
      have p2 := fun n os => (hcell n os _).trans h8.c2
      have p3 := fun n os => (hcell n os _).trans h8.c3
      obtain ⟨d0, d1, d2, d3, -⟩ := box_at HT.out.one
      have hcellx : ∀ n os o, (grow (wr.drewN n) os).cell? ⟨w.heap.size, o, none⟩ = wr.cell? ⟨w.heap.size, o, none⟩ := fun n os o => (Lay.of_grow (w := wr) n os).below.cell (by show w.heap.size < _; omega)
      have y0 := fun n os => (hcellx n os _).trans d0
      have y1 := fun n os => (hcellx n os _).trans d1
      have y2 := fun n os => (hcellx n os _).trans d2
      have y3 := fun n os => (hcellx n os _).trans d3
      clear hcell hcellx hl hlr h8 d0 d1 d2 d3
      simp only [Tm.val] at C1
      have hgd := hasS_drop l x k hlt
      rw [← HG.out] at hgd
      have HGD := Lib.hid hgd; clear hgd
      cases q1 with
      | true =>
        have hE : u = true := by have := HGD.out; rw [if_pos (Tm.same_iff.1 HQ1.out.symm)] at this; exact this
        subst hE
        clear HGD
        go_wp2_with fail
        go_quiet_grown ((go_at_call 23; with_reducible exact quiet_lay (C1.out _ (Lay.of_grow _ _))))
        go_wp2_with fail
        go_ret
        exact ⟨rfl, HT.out.lay.trans ((Lay.of_grow _ _).mono hss)⟩
      | false =>
        have HE : Hid (u = hasS (l.drop (k + 1)) x) := by have := HGD.out; rw [if_neg (Tm.same_false.1 HQ1.out.symm)] at this; exact this
        clear HGD
        go_wp2_with fail
        go_quiet_grown ((go_at_call 23; with_reducible exact quiet_lay (C1.out _ (Lay.of_grow _ _))))
        go_wp2_with fail
        go_roundw
        case rel => exact ⟨k + 1, by omega, by go_num, HE, HT.out.go (Lay.of_grow _ _)⟩
        case measure => simp [intOf]; omega
    · obtain rfl : k = l.length := by omega
      have hE : u = false := by have := HG.out; rw [List.drop_length] at this; exact this
      subst hE
      go_wp2_with fail
      go_ret
      exact ⟨rfl, HT.out.lay⟩
end Go.Proofs.YtkbkgiihgghbeaaDoor
