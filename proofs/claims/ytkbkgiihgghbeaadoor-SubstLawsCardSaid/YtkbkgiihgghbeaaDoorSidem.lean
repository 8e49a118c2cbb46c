/- subst.Idempotent and the reference's; the reference's Has. -/
import Derived.Test.YtkbkgiihgghbeaaDoorSoccurs
import Derived.Test.YtkbkgiihgghbeaaDoorSrcompose
namespace Go.Proofs.YtkbkgiihgghbeaaDoor
open Go.RowKit Go.Sort

def hasT (l : List Tm) (x : Tm) : Bool := l.any (fun t => t.same x)
theorem hasT_iff {l : List Tm} {x : Tm} : hasT l x = decide (x ∈ l) := by
  rw [Bool.eq_iff_iff]
  simp only [hasT, List.any_eq_true, decide_eq_true_eq, Tm.same_iff]
  exact ⟨fun ⟨t, h, e⟩ => e ▸ h, fun h => ⟨x, h, rfl⟩⟩
theorem hasT_occ (x t : Tm) : hasT t.all x = occ x t := hasT_iff
theorem any_drop {α : Type} (f : α → Bool) (l : List α) (k : Nat) (h : k < l.length) : (l.drop k).any f = (f l[k] || (l.drop (k + 1)).any f) := by
  rw [List.drop_eq_getElem_cons h, List.any_cons]

set_option maxHeartbeats 1200000 in
set_option maxRecDepth 100000 in
theorem rhas_any (l : List Tm) (A0 : Option Addr) (cap0 : Nat) (x : Tm) (A : Option Addr) (c : Nat) (w : World) (hsz : ∀ t ∈ l, t.size ≤ 1000000) (hx : x.size ≤ 1000000) (hrep : RepS w (fun b => b < w.heap.size) l A0 cap0) (hrx : RepT w w.heap.size x A c) :
    Calls Tryd.prog 58 #[.slice A0 l.length cap0, x.val A c] w fun e w' => e = .returned (.bool (hasT l x)) ∧ Lay w.heap.size w w' := by
  have mixed : Tryd.prog.follows .mixedOrders = true := by kernel_rfl
  obtain ⟨V, hV⟩ : ∃ V, V = w.alloc (.cells #[.int .i64 x.kind, .string x.name, .int .i64 x.sort, .slice A x.kids.length c] 30) := ⟨_, rfl⟩
  have h2 : One w x A c V := by rw [hV]; exact One.new w x A c
  obtain ⟨u, hu⟩ : ∃ u, u = hasT l x := ⟨_, rfl⟩
  rw [← hu]
  have HU : Hid (u = (l.drop 0).any (fun t => t.same x)) := hu; clear hu
  obtain ⟨h0, h1, h3⟩ := hrep
  unfold maxLen at h1
  have HSZ := Lib.hid hsz; clear hsz
  have HRX := Lib.hid hrx; clear hrx
  have HV := Lib.hid hV; clear hV
  have H2 := Lib.hid h2; clear h2
  simp only [Tm.val]
  go_enter Tryd.func58, Tryd.ntmps58
  go_wp2_with fail
  rw [← HV.out]
  go_loopw [5] (fun i wr => ∃ k : Nat, k ≤ l.length ∧ i = .int .i64 k ∧ Hid (u = (l.drop k).any (fun t => t.same x)) ∧ Hid (One w x A c wr)) (fun i _ => l.length - (intOf i).toNat)
  case atStart => exact ⟨0, Nat.zero_le _, rfl, HU, H2⟩
  case round =>
    obtain ⟨k, hk, rfl, HG, HT⟩ := hrel
    have i1 : (0 : Int) ≤ (k : Int) := Int.natCast_nonneg _
    have hlt2 := HT.out.lt
    by_cases hlt : k < l.length
    · have i2 : (k : Int) < (l.length : Int) := by omega
      rcases h3 with rfl | ⟨kb, off, rfl, hbB, hl⟩
      · simp at hlt
      have hlr : RepLP wr (fun b => b < w.heap.size) l kb off := RepLP.mono (fun _ h => h) (fun p hp => HT.out.lay.below.cell hp) _ _ _ hbB hl
      obtain ⟨A1, c1, t0, t1, t2, t3, hr1⟩ := hlr.get k hlt
      have hb1 := HSZ.out l[k] (List.getElem_mem hlt)
      have hss := HT.out.lay.size
      have C1 : Hid (∀ X, Lay wr.heap.size wr X → Calls Tryd.prog 23 #[l[k].val A1 c1, x.val A c] X fun e w' => e = .returned (.bool (l[k].same x)) ∧ Lay X.heap.size X w') := Lib.hid fun X hX =>
        rsame_any _ _ _ _ _ _ X hb1 hx (RepP.mono (fun b (h : b < w.heap.size) => by have := hX.size; omega) (fun p (hp : p.block < w.heap.size) => hX.below.cell (by omega)) _ _ _ hr1)
          (HRX.out.go (below_then HT.out.lay.below hX.below hss) (Nat.le_trans hss hX.size))
      have hst := any_drop (fun t => t.same x) l k hlt
      rw [← HG.out] at hst
      obtain ⟨q1, hq1⟩ : ∃ c, c = l[k].same x := ⟨_, rfl⟩
      rw [← hq1] at C1 hst
      clear hq1
      have hcell : ∀ n os o, (grow (wr.drewN n) os).cell? ⟨kb, o, none⟩ = wr.cell? ⟨kb, o, none⟩ := fun n os o => (Lay.of_grow (w := wr) n os).below.cell (by show kb < _; omega)
      have p0 := fun n os => (hcell n os _).trans t0
      have p1 := fun n os => (hcell n os _).trans t1
      have p2 := fun n os => (hcell n os _).trans t2
      have p3 := fun n os => (hcell n os _).trans t3
      obtain ⟨d0, d1, d2, d3, -⟩ := box_at HT.out.one
      have hcellx : ∀ n os o, (grow (wr.drewN n) os).cell? ⟨w.heap.size, o, none⟩ = wr.cell? ⟨w.heap.size, o, none⟩ := fun n os o => (Lay.of_grow (w := wr) n os).below.cell (by show w.heap.size < _; omega)
      have y0 := fun n os => (hcellx n os _).trans d0
      have y1 := fun n os => (hcellx n os _).trans d1
      have y2 := fun n os => (hcellx n os _).trans d2
      have y3 := fun n os => (hcellx n os _).trans d3
      clear hcell hcellx hl hlr d0 d1 d2 d3 t0 t1 t2 t3 hr1
      simp only [Tm.val] at C1
      have HST := Lib.hid hst; clear hst
      cases q1 with
      | true =>
        have hE : u = true := by rw [HST.out, Bool.true_or]
        subst hE
        clear HST
        go_wp2_with fail
        go_quiet_grown ((go_at_call 23; with_reducible exact quiet_lay (C1.out _ (Lay.of_grow _ _))))
        go_wp2_with fail
        go_ret
        exact ⟨rfl, HT.out.lay.trans ((Lay.of_grow _ _).mono hss)⟩
      | false =>
        have HE : Hid (u = (l.drop (k + 1)).any (fun t => t.same x)) := by rw [HST.out, Bool.false_or]; exact rfl
        clear HST
        go_wp2_with fail
        go_quiet_grown ((go_at_call 23; with_reducible exact quiet_lay (C1.out _ (Lay.of_grow _ _))))
        go_wp2_with fail
        go_roundw
        case rel => exact ⟨k + 1, by omega, by go_num, HE, HT.out.go (Lay.of_grow _ _)⟩
        case measure => simp [intOf]; omega
    · obtain rfl : k = l.length := by omega
      have hE : u = false := by have := HG.out; rw [List.drop_length] at this; exact this
      subst hE
      go_wp2_with fail
      go_ret
      exact ⟨rfl, HT.out.lay⟩

/-- what is asked of a closure over bindings -/
def TestB (g : Nat) (caps : Array Value) (p : Bd → Bool) (l : List Bd) (w : World) : Prop :=
  ∀ b ∈ l, ∀ (A : Option Addr) (c : Nat) (A' : Option Addr) (c' : Nat) (Z : World), Below w.heap.size w Z → RepT Z Z.heap.size b.1 A c → RepT Z Z.heap.size b.2 A' c' → Calls Tryd.prog g (#[bval b A c A' c'] ++ caps) Z fun e w' => e = .returned (.bool (p b)) ∧ Below Z.heap.size Z w'

set_option maxHeartbeats 1000000 in
set_option maxRecDepth 100000 in
theorem indexB_any (l : List Bd) (A0 : Option Addr) (cap0 : Nat) (g : Nat) (caps : Array Value) (p : Bd → Bool) (w : World) (eg : ∀ args w, (callFunc g args).run Tryd.prog w = .ok (.enter g args) w) (hp : TestB g caps p l w) (hlen : l.length ≤ 1000000) (hrep : RepB w (fun b => b < w.heap.size) l A0 cap0) :
    Calls Tryd.prog 78 #[.slice A0 l.length cap0, .func (.func g) #[] caps] w fun e w' => ∃ n : Int, e = .returned (.int .i64 n) ∧ decide (0 ≤ n) = l.any p ∧ Below w.heap.size w w' := by
  have mixed : Tryd.prog.follows .mixedOrders = true := by kernel_rfl
  obtain ⟨h1, h2, h3⟩ := hrep
  unfold maxLen at h2
  have HP := Lib.hid hp; clear hp
  obtain ⟨r, hr⟩ : ∃ r, r = l.any p := ⟨_, rfl⟩
  rw [← hr]
  have HR0 : Hid (r = (l.drop 0).any p) := hr; clear hr
  go_enter Tryd.func78, Tryd.ntmps78
  go_wp2_with fail
  go_loopw [5, 8] (fun _ i wr => ∃ k : Nat, k ≤ l.length ∧ i = .int .i64 k ∧ Hid (r = (l.drop k).any p) ∧ Hid (Below w.heap.size w wr)) (fun _ i _ => l.length - (intOf i).toNat)
  case atStart => exact ⟨0, Nat.zero_le _, rfl, HR0, Below.refl _ _⟩
  case round =>
    obtain ⟨k, hk, rfl, HR, HBW⟩ := hrel
    have i1 : (0 : Int) ≤ (k : Int) := Int.natCast_nonneg _
    by_cases hlt : k < l.length
    · have i2 : (k : Int) < (l.length : Int) := by omega
      rcases h3 with rfl | ⟨b, off, rfl, hbB, hl⟩
      · simp at hlt
      have hws := HBW.out.size
      have hlr : RepLP wr (fun b => b < w.heap.size) (flat l) b off := RepLP.mono (fun _ h => h) (fun p hp => HBW.out.cell hp) _ _ _ hbB hl
      obtain ⟨A, c, A', c', h8⟩ := hlr.get8 k hlt
      have HC := Lib.hid (HP.out l[k] (List.getElem_mem hlt) A c A' c' wr HBW.out (h8.r1.mono' hws) (h8.r2.mono' hws))
      have hst := any_drop p l k hlt
      rw [← HR.out] at hst
      obtain ⟨q, hq⟩ : ∃ q, q = p l[k] := ⟨_, rfl⟩
      rw [← hq] at HC hst
      obtain ⟨a0, a1, a2, a3, b0, b1, b2, b3, -, -⟩ := h8
      have HST := Lib.hid hst; clear hst hq hlr hl
      simp only [bval, bcells] at HC
      cases q with
      | true =>
        have hr : r = true := by rw [HST.out, Bool.true_or]
        subst hr
        clear HST
        go_wp2_with (go_at_fn g; refine HC.out.mono ?_; rintro e w' ⟨rfl, hb'⟩)
        go_ret
        exact ⟨k, rfl, decide_eq_true (by omega), HBW.out.trans (hb'.mono hws)⟩
      | false =>
        have HNX : Hid (r = (l.drop (k + 1)).any p) := by rw [HST.out, Bool.false_or]; exact rfl
        clear HST
        go_wp2_with (go_at_fn g; refine HC.out.mono ?_; rintro e w' ⟨rfl, hb'⟩)
        go_roundw
        case rel => exact ⟨k + 1, by omega, by go_num, HNX, HBW.out.trans (hb'.mono hws)⟩
        case measure => simp [intOf]; omega
    · obtain rfl : k = l.length := by omega
      have hr : r = false := by rw [HR.out, List.drop_length]; rfl
      subst hr
      go_wp2_with fail
      go_ret
      exact ⟨-1, rfl, by decide, HBW.out⟩

theorem containsB_any (l : List Bd) (A0 : Option Addr) (cap0 : Nat) (g : Nat) (caps : Array Value) (p : Bd → Bool) (w : World) (eg : ∀ args w, (callFunc g args).run Tryd.prog w = .ok (.enter g args) w) (hp : TestB g caps p l w) (hlen : l.length ≤ 1000000) (hrep : RepB w (fun b => b < w.heap.size) l A0 cap0) :
    Calls Tryd.prog 53 #[.slice A0 l.length cap0, .func (.func g) #[] caps] w fun e w' => e = .returned (.bool (l.any p)) ∧ Below w.heap.size w w' := by
  have HI := Lib.hid (indexB_any l A0 cap0 g caps p w eg hp hlen hrep)
  clear hp hrep
  generalize l.any p = r at *
  go_enter Tryd.func53, Tryd.ntmps53
  go_wp2_with fail
  refine HI.out.mono ?_
  rintro e w' ⟨n, rfl, hn, hb⟩
  go_wp2_with fail
  go_ret
  exact ⟨by rw [← hn]; rfl, hb⟩

/-- whether no variable occurs in a term -/
def idemE (s : List Bd) : Bool := s.all fun a => !(s.any fun b => occ a.1 b.2)
theorem all_drop {α : Type} (f : α → Bool) (l : List α) (k : Nat) (h : k < l.length) : (l.drop k).all f = (f l[k] && (l.drop (k + 1)).all f) := by
  rw [List.drop_eq_getElem_cons h, List.all_cons]

set_option maxHeartbeats 1000000 in
set_option maxRecDepth 100000 in
/-- the closure in Idempotent -/
theorem idem1_any (a b : Bd) (A A1 A' A2 : Option Addr) (c c1 c' c2 bl : Nat) (w : World) (hb : bl < w.heap.size) (ha : a.1.size ≤ 1000000) (ht : b.2.size ≤ 1000000)
    (hx : w.heap[bl]? = some (.cells (bcells a A c A1 c1) 54 (0, 0))) (hra : RepT w w.heap.size a.1 A c) (hrb : RepT w w.heap.size b.2 A2 c2) :
    Calls Tryd.prog 54 #[bval b A' c' A2 c2, .pointer (some ⟨bl, 0, none⟩)] w fun e w' => e = .returned (.bool (occ a.1 b.2)) ∧ Below w.heap.size w w' := by
  obtain ⟨V, hV⟩ : ∃ V, V = w.alloc (.cells (bcells b A' c' A2 c2) 54) := ⟨_, rfl⟩
  have hbV : Below w.heap.size w V := by rw [hV]; exact below1 (Nat.le_refl _) _
  have hvb : V.heap[w.heap.size]? = some (.cells (bcells b A' c' A2 c2) 54 (0, 0)) := by rw [hV]; exact heap_alloc_new _ _
  have hx2 := (hbV.block _ hb).trans hx
  have HC := Lib.hid (soccurs_any a.1 A c ha 1000000 b.2 A2 c2 V ht (Nat.le_refl _) (hra.go hbV hbV.size) (hrb.go hbV hbV.size))
  simp only [bcells] at hx2 hvb hV
  obtain ⟨a0, a1, a2, a3, -, -, -, -⟩ := eight_at hx2
  obtain ⟨-, -, -, -, b0, b1, b2, b3⟩ := eight_at hvb
  rw [hV] at a0 a1 a2 a3 b0 b1 b2 b3
  have HBV := Lib.hid hbV; clear hbV hx hx2 hvb
  have HV := Lib.hid hV; clear hV
  generalize occ a.1 b.2 = q at *
  simp only [Tm.val] at HC
  simp only [bval, bcells]
  go_enter Tryd.func54, Tryd.ntmps54
  go_wp2_with fail
  rw [← HV.out]
  refine HC.out.mono ?_
  rintro e w' ⟨rfl, hb'⟩
  go_wp2_with fail
  go_ret
  exact ⟨rfl, below_then HBV.out hb' HBV.out.size⟩

set_option maxHeartbeats 1000000 in
set_option maxRecDepth 100000 in
theorem sidem_any (s : List Bd) (S0 : Option Addr) (sc : Nat) (w : World) (hsz : SizeB s) (hlen : s.length ≤ 1000000) (hrs : RepB w (fun b => b < w.heap.size) s S0 sc) :
    Calls Tryd.prog 29 #[.slice S0 s.length sc] w fun e w' => e = .returned (.bool (idemE s)) ∧ Below w.heap.size w w' := by
  have mixed : Tryd.prog.follows .mixedOrders = true := by kernel_rfl
  have hs1 := hrs.2.1
  have hs2 := hrs.1
  unfold maxLen at hs1
  have HRS := Lib.hid hrs; clear hrs
  have HSZ := Lib.hid hsz; clear hsz
  obtain ⟨r, hr⟩ : ∃ r, r = idemE s := ⟨_, rfl⟩
  rw [← hr]
  have HR0 : Hid (r = (s.drop 0).all fun a => !(s.any fun b => occ a.1 b.2)) := hr; clear hr
  go_enter Tryd.func29, Tryd.ntmps29
  go_wp2_with fail
  go_loopw [7] (fun i wr => ∃ k : Nat, k ≤ s.length ∧ i = .int .i64 k ∧ Hid (r = (s.drop k).all fun a => !(s.any fun b => occ a.1 b.2)) ∧ Hid (Below w.heap.size w wr)) (fun i _ => s.length - (intOf i).toNat)
  case atStart => exact ⟨0, Nat.zero_le _, rfl, HR0, Below.refl _ _⟩
  case round =>
    obtain ⟨k, hk, rfl, HR, HBW⟩ := hrel
    have i1 : (0 : Int) ≤ (k : Int) := Int.natCast_nonneg _
    by_cases hlt : k < s.length
    · have i2 : (k : Int) < (s.length : Int) := by omega
      rcases HRS.out.2.2 with h | ⟨kb, off, hS0, hbB, hl⟩
      · rw [h] at hlt; simp at hlt
      subst hS0
      have hws := HBW.out.size
      have hlr : RepLP wr (fun b => b < w.heap.size) (flat s) kb off := RepLP.mono (fun _ h => h) (fun p hp => HBW.out.cell hp) _ _ _ hbB hl
      obtain ⟨A, c, A', c', h8⟩ := hlr.get8 k hlt
      obtain ⟨hx, ht⟩ := HSZ.out s[k] (List.getElem_mem hlt)
      obtain ⟨V, hV⟩ : ∃ V, V = wr.alloc (.cells (bcells s[k] A c A' c') 54) := ⟨_, rfl⟩
      have hbx2 : V.heap[wr.heap.size]? = some (.cells (bcells s[k] A c A' c') 54 (0, 0)) := by rw [hV]; exact heap_alloc_new _ _
      have hbXr : Below wr.heap.size wr V := by rw [hV]; exact below1 (Nat.le_refl _) _
      have hwv := below_then HBW.out hbXr hws
      have hvl : wr.heap.size < V.heap.size := (Array.getElem?_eq_some_iff.1 hbx2).1
      have CF := containsB_any s (some ⟨kb, off, none⟩) sc 54 #[.pointer (some ⟨wr.heap.size, 0, none⟩)] (fun b => occ s[k].1 b.2) V (enters_of Tryd.func54 (by kernel_rfl) rfl)
        (fun b hb B e B' e' Z hZ hr1 hr2 => idem1_any s[k] b A A' B B' c c' e e' wr.heap.size Z (by have := hZ.size; omega) hx (HSZ.out b hb).2 ((hZ.block _ hvl).trans hbx2)
          (RepP.mono (fun b (h : b < w.heap.size) => by have := hZ.size; omega) (fun p (hp : p.block < w.heap.size) => (hZ.cell (by omega)).trans (hbXr.cell (by omega))) _ _ _ h8.r1) hr2) hlen (HRS.out.go hwv hwv.size)
      have hst := all_drop (fun a => !(s.any fun b => occ a.1 b.2)) s k hlt
      rw [← HR.out] at hst
      generalize (s.any fun b => occ s[k].1 b.2) = q at *
      have CF := Lib.hid CF
      obtain ⟨a0, a1, a2, a3, b0, b1, b2, b3, -, -⟩ := h8
      have HST := Lib.hid hst; clear hst
      have HWV := Lib.hid hwv; clear hwv hbXr hbx2 hlr hl hvl
      simp only [bcells] at hV
      have HV := Lib.hid hV; clear hV
      cases q with
      | true =>
        have hr : r = false := by rw [HST.out, Bool.not_true, Bool.false_and]
        subst hr
        clear HST
        go_wp2_with fail
        rw [← HV.out]
        refine CF.out.mono ?_; clear CF
        rintro e w2 ⟨rfl, hb2⟩
        go_wp2_with fail
        go_ret
        exact ⟨rfl, below_then HWV.out hb2 HWV.out.size⟩
      | false =>
        have HNX : Hid (r = (s.drop (k + 1)).all fun a => !(s.any fun b => occ a.1 b.2)) := by rw [HST.out, Bool.not_false, Bool.true_and]; exact rfl
        clear HST
        go_wp2_with fail
        rw [← HV.out]
        refine CF.out.mono ?_; clear CF a0 a1 a2 a3 b0 b1 b2 b3 HV
        rintro e w2 ⟨rfl, hb2⟩
        go_wp2_with fail
        go_roundw
        case rel => exact ⟨k + 1, by omega, by go_num, HNX, below_then HWV.out hb2 HWV.out.size⟩
        case measure => simp [intOf]; omega
    · obtain rfl : k = s.length := by omega
      have hr : r = true := by rw [HR.out, List.drop_length]; rfl
      subst hr
      go_wp2_with fail
      go_ret
      exact ⟨rfl, HBW.out⟩

theorem RowT.toRep {w w0 : World} {B : Nat} {A : Option Addr} {n cap : Nat} {its : List It} (h : RowT w w0.heap.size (fun b => b < B) (.slice A n cap) its) (_hB : B ≤ w0.heap.size) : RepS w (fun b => b < w.heap.size) (its.map (·.1)) A cap := by
  obtain ⟨A1, c1, he, hS⟩ := h.toS (P := fun b => b < w.heap.size) (fun b _ h => h) (fun b _ h => h)
  injection he with he1 _ he3
  subst he1 he3
  exact hS
mutual
theorem all_size : ∀ (t : Tm), ∀ x ∈ t.all, x.size ≤ t.size
  | .mk k n s l, x, h => by
    rw [Tm.all] at h
    rcases List.mem_cons.1 h with rfl | h
    · exact Nat.le_refl _
    · have := alls_size l x h; rw [Tm.size]; omega
theorem alls_size : ∀ (l : List Tm), ∀ x ∈ Tm.alls l, x.size ≤ Tm.sizes l
  | [], x, h => by simp [Tm.alls] at h
  | t :: r, x, h => by
    rw [Tm.alls] at h; rw [Tm.sizes]
    rcases List.mem_append.1 h with h | h
    · have := all_size t x h; omega
    · have := alls_size r x h; omega
end

set_option maxHeartbeats 1000000 in
set_option maxRecDepth 100000 in
theorem ridem_any (s : List Bd) (S0 : Option Addr) (sc : Nat) (w : World) (hsz : SizeB s) (hrs : RepB w (fun b => b < w.heap.size) s S0 sc) :
    Calls Tryd.prog 31 #[.slice S0 s.length sc] w fun e w' => e = .returned (.bool (idemE s)) ∧ Below w.heap.size w w' := by
  have mixed : Tryd.prog.follows .mixedOrders = true := by kernel_rfl
  have hs1 := hrs.2.1
  have hs2 := hrs.1
  unfold maxLen at hs1
  have HRS := Lib.hid hrs; clear hrs
  have HSZ := Lib.hid hsz; clear hsz
  obtain ⟨r, hr⟩ : ∃ r, r = idemE s := ⟨_, rfl⟩
  rw [← hr]
  have HR0 : Hid (r = (s.drop 0).all fun a => !(s.any fun b => occ a.1 b.2)) := hr; clear hr
  go_enter Tryd.func31, Tryd.ntmps31
  go_wp2_with fail
  go_loopw [3] (fun i wr => ∃ k : Nat, k ≤ s.length ∧ i = .int .i64 k ∧ Hid (r = (s.drop k).all fun a => !(s.any fun b => occ a.1 b.2)) ∧ Hid (Below w.heap.size w wr)) (fun i _ => s.length - (intOf i).toNat)
  case atStart => exact ⟨0, Nat.zero_le _, rfl, HR0, Below.refl _ _⟩
  case round =>
    obtain ⟨i, hi, rfl, HR, HBW⟩ := hrel
    have i1 : (0 : Int) ≤ (i : Int) := Int.natCast_nonneg _
    by_cases hlt : i < s.length
    · have i2 : (i : Int) < (s.length : Int) := by omega
      have hst := all_drop (fun a => !(s.any fun b => occ a.1 b.2)) s i hlt
      rw [← HR.out] at hst
      obtain ⟨q, hq⟩ : ∃ q, q = (s.any fun b => occ s[i].1 b.2) := ⟨_, rfl⟩
      rw [← hq] at hst
      have HQ0 : Hid (q = (s.drop 0).any fun b => occ s[i].1 b.2) := hq; clear hq
      have HST := Lib.hid hst; clear hst
      go_wp2_with fail
      go_loopw [4] (fun j wr => ∃ k : Nat, k ≤ s.length ∧ j = .int .i64 k ∧ Hid (q = (s.drop k).any fun b => occ s[i].1 b.2) ∧ Hid (Below w.heap.size w wr)) (fun j _ => s.length - (intOf j).toNat)
      case atStart => exact ⟨0, Nat.zero_le _, rfl, HQ0, HBW⟩
      case round =>
        clear HBW
        obtain ⟨k, hk, rfl, HQ, HBW⟩ := hrel
        have k1 : (0 : Int) ≤ (k : Int) := Int.natCast_nonneg _
        by_cases hltk : k < s.length
        · have k2 : (k : Int) < (s.length : Int) := by omega
          rcases HRS.out.2.2 with h | ⟨kb, off, hS0, hbB, hl⟩
          · rw [h] at hlt; simp at hlt
          subst hS0
          have hws := HBW.out.size
          have hlr : RepLP wr (fun b => b < w.heap.size) (flat s) kb off := RepLP.mono (fun _ h => h) (fun p hp => HBW.out.cell hp) _ _ _ hbB hl
          obtain ⟨A, c, A', c', hi8⟩ := hlr.get8 i hlt
          obtain ⟨A1, c1, A1', c1', hk8⟩ := hlr.get8 k hltk
          have HAT : ∀ {o : Nat} {x : Bd} {A c A' c'}, At8 wr (fun b => b < w.heap.size) kb o x A c A' c' → Hid (∀ Y, Below wr.drew.heap.size wr.drew Y → At8 Y (fun b => b < w.heap.size) kb o x A c A' c') := fun h8 Y hY => by
            have hY' : Below wr.heap.size wr Y := (Below.refl _ _).drew.trans hY
            have hc : ∀ o, Y.cell? ⟨kb, o, none⟩ = wr.cell? ⟨kb, o, none⟩ := fun o => hY'.cell (by show kb < _; omega)
            have hr : ∀ (t : Tm) B e, RepP wr (fun b => b < w.heap.size) t B e → RepP Y (fun b => b < w.heap.size) t B e := fun t B e h => RepP.mono (fun _ h => h) (fun p hp => hY'.cell (by omega)) _ _ _ h
            exact ⟨(hc _).trans h8.c0, (hc _).trans h8.c1, (hc _).trans h8.c2, (hc _).trans h8.c3, (hc _).trans h8.c4, (hc _).trans h8.c5, (hc _).trans h8.c6, (hc _).trans h8.c7, hr _ _ _ h8.r1, hr _ _ _ h8.r2⟩
          have HI := HAT hi8
          have HK := HAT hk8
          clear HAT hl hlr hi8 hk8
          obtain ⟨hx, -⟩ := HSZ.out s[i] (List.getElem_mem hlt)
          obtain ⟨-, ht⟩ := HSZ.out s[k] (List.getElem_mem hltk)
          have hst := any_drop (fun b => occ s[i].1 b.2) s k hltk
          rw [← HQ.out] at hst
          have hdz : wr.drew.heap.size = wr.heap.size := rfl
          have AL := rall_any 1000000 s[k].2 A1' c1' wr.drew w.heap.size ht (Nat.le_refl _) (by omega) (HK.out _ (Below.refl _ _)).r2
          have HA := fun (A5 : Option Addr) (c5 : Nat) (Y : World) (hY : Below wr.drew.heap.size wr.drew Y) (h : RepS Y (fun b => b < Y.heap.size) s[k].2.all A5 c5) => rhas_any s[k].2.all A5 c5 s[i].1 A c Y (fun t h => by have := all_size s[k].2 t h; omega) hx h ((HI.out Y hY).r1.mono' (by have := hY.size; omega))
          simp only [hasT_occ] at HA
          have hal : s[k].2.all.length ≤ 1000000 := by rw [Tm.all_length]; exact ht
          obtain ⟨q2, hq2⟩ : ∃ v, v = occ s[i].1 s[k].2 := ⟨_, rfl⟩
          simp only [← hq2] at HA hst
          clear hq2
          have HST2 := Lib.hid hst; clear hst
          have AL := Lib.hid AL
          have HA := Lib.hid HA
          simp only [Tm.val] at AL HA
          generalize s[k].2.all = al at *
          go_wp2_with fail
          refine wp_region_mix (fun Y => Below wr.drew.heap.size wr.drew Y) 12 (.held 0 (.held 1 (.held 2 (.held 3 (.held 4 (.held 6 (.held 7 (.held 8 (.held 9 (.held 10 (.op 5 (.op 11 .nil)))))))))))) mixed (by kernel_rfl) ?_
          refine mix_take (v := .slice (some ⟨kb, off, none⟩) s.length sc) rfl rfl (fun _ _ _ h => h) (Below.refl _ _) (fun Y hY => by (try simp only [Act.put]); go_simp) ?_
          refine mix_take (v := .int .i64 k) rfl rfl (fun _ _ _ h => h) (Below.refl _ _) (fun Y hY => by (try simp only [Act.put]); go_simp) ?_
          refine mix_take (v := .pointer (some ⟨kb, off + k * 8, none⟩)) rfl rfl (fun _ _ _ h => h) (Below.refl _ _) (fun Y hY => by (try simp only [Act.put]); go_simp) ?_
          refine mix_take (v := .pointer (some ⟨kb, off + k * 8 + 4, none⟩)) rfl rfl (fun _ _ _ h => h) (Below.refl _ _) (fun Y hY => by (try simp only [Act.put]); go_simp) ?_
          refine mix_take (v := (.agg #[.int .i64 s[k].2.kind, .string s[k].2.name, .int .i64 s[k].2.sort, .slice A1' s[k].2.kids.length c1'])) rfl rfl (fun _ _ _ h => h) (Below.refl _ _) (fun Y hY => by
            obtain ⟨-, -, -, -, z0, z1, z2, z3, -, -⟩ := HK.out Y hY
            (try simp only [Act.put]); go_simp) ?_
          refine mix_take (v := .slice (some ⟨kb, off, none⟩) s.length sc) rfl rfl (fun _ _ _ h => h) (Below.refl _ _) (fun Y hY => by (try simp only [Act.put]); go_simp) ?_
          refine mix_take (v := .int .i64 i) rfl rfl (fun _ _ _ h => h) (Below.refl _ _) (fun Y hY => by (try simp only [Act.put]); go_simp) ?_
          refine mix_take (v := .pointer (some ⟨kb, off + i * 8, none⟩)) rfl rfl (fun _ _ _ h => h) (Below.refl _ _) (fun Y hY => by (try simp only [Act.put]); go_simp) ?_
          refine mix_take (v := .pointer (some ⟨kb, off + i * 8, none⟩)) rfl rfl (fun _ _ _ h => h) (Below.refl _ _) (fun Y hY => by (try simp only [Act.put]); go_simp) ?_
          refine mix_take (v := (.agg #[.int .i64 s[i].1.kind, .string s[i].1.name, .int .i64 s[i].1.sort, .slice A s[i].1.kids.length c])) rfl rfl (fun _ _ _ h => h) (Below.refl _ _) (fun Y hY => by
            obtain ⟨z0, z1, z2, z3, -, -, -, -, -, -⟩ := HI.out Y hY
            (try simp only [Act.put]); go_simp) ?_
          simp only [Act.put, List.setIfInBounds_toArray]
          refine mix_op rfl rfl (fun K hK => ?_)
          go_wp2_with fail
          refine AL.out.mono ?_; clear AL
          rintro e w4 ⟨A5, c5, n5, its, rfl, rfl, hrow, hb4, hits⟩
          refine hK _ _ ⟨fun _ => hb4, ?_⟩; clear hK K
          have hrep := hrow.toRep (by omega)
          rw [hits] at hrep
          have HA := Lib.hid (HA.out A5 c5 w4 hb4 hrep)
          have HB4 := Lib.hid hb4; clear hb4 hrow hrep hits
          refine mix_op rfl rfl (fun K hK => ?_)
          go_wp2_with fail
          refine HA.out.mono ?_; clear HA
          rintro e w5 ⟨rfl, hl5⟩
          have hb5 := below_then HB4.out hl5.below HB4.out.size
          refine hK _ _ ⟨fun _ => hb5, mix_nil ?_⟩; clear hK K
          have HB5 := Lib.hid (HBW.out.trans (((Below.refl _ _).drew.trans hb5).mono hws)); clear hb5 hl5 HB4
          cases q2 with
          | true =>
            have hq : q = true := by rw [HST2.out, Bool.true_or]
            subst hq
            have hr : r = false := by rw [HST.out, Bool.not_true, Bool.false_and]
            subst hr
            clear HST HST2
            go_wp2_with fail
            go_ret
            exact ⟨rfl, HB5.out⟩
          | false =>
            have HNX : Hid (q = (s.drop (k + 1)).any fun b => occ s[i].1 b.2) := by rw [HST2.out, Bool.false_or]; exact rfl
            clear HST2
            go_wp2_with fail
            go_roundw
            case rel => exact ⟨k + 1, by omega, by go_num, HNX, HB5.out⟩
            case measure => simp [intOf]; omega
        · obtain rfl : k = s.length := by omega
          have hq : q = false := by rw [HQ.out, List.drop_length]; rfl
          subst hq
          have HNX : Hid (r = (s.drop (i + 1)).all fun a => !(s.any fun b => occ a.1 b.2)) := by rw [HST.out, Bool.not_false, Bool.true_and]; exact rfl
          go_wp2_with fail
          go_roundw
          case rel => exact ⟨i + 1, by omega, by go_num, HNX, HBW.out⟩
          case measure => simp [intOf]; omega
    · obtain rfl : i = s.length := by omega
      have hr : r = true := by rw [HR.out, List.drop_length]; rfl
      subst hr
      go_wp2_with fail
      go_ret
      exact ⟨rfl, HBW.out⟩
end Go.Proofs.YtkbkgiihgghbeaaDoor
