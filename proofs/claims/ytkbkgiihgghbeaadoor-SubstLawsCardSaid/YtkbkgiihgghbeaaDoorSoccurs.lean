/- subst.occurs, by slices.ContainsFunc over terms. -/
import Derived.Test.YtkbkgiihgghbeaaDoorSown
import Derived.Test.YtkbkgiihgghbeaaDoorSall
namespace Go.Proofs.YtkbkgiihgghbeaaDoor
open Go.RowKit Go.Sort

/-- what is asked of a closure over terms -/
def TestT (g : Nat) (caps : Array Value) (p : Tm → Bool) (l : List Tm) (w : World) : Prop :=
  ∀ t ∈ l, ∀ (A : Option Addr) (c : Nat) (Z : World), Below w.heap.size w Z → RepT Z Z.heap.size t A c → Calls Tryd.prog g (#[t.val A c] ++ caps) Z fun e w' => e = .returned (.bool (p t)) ∧ Below Z.heap.size Z w'

set_option maxHeartbeats 1000000 in
set_option maxRecDepth 100000 in
theorem indexT_any (l : List Tm) (A0 : Option Addr) (cap0 : Nat) (g : Nat) (caps : Array Value) (p : Tm → Bool) (w : World) (eg : ∀ args w, (callFunc g args).run Tryd.prog w = .ok (.enter g args) w) (hp : TestT g caps p l w) (hlen : l.length ≤ 1000000) (hrep : RepS w (fun b => b < w.heap.size) l A0 cap0) :
    Calls Tryd.prog 80 #[.slice A0 l.length cap0, .func (.func g) #[] caps] w fun e w' => ∃ n : Int, e = .returned (.int .i64 n) ∧ decide (0 ≤ n) = l.any p ∧ Below w.heap.size w w' := by
  have mixed : Tryd.prog.follows .mixedOrders = true := by kernel_rfl
  obtain ⟨h1, h2, h3⟩ := hrep
  unfold maxLen at h2
  have HP := Lib.hid hp; clear hp
  obtain ⟨r, hr⟩ : ∃ r, r = l.any p := ⟨_, rfl⟩
  rw [← hr]
  have HR0 : Hid (r = (l.drop 0).any p) := hr; clear hr
  go_enter Tryd.func80, Tryd.ntmps80
  go_wp2_with fail
  go_loopw [5, 8] (fun _ i wr => ∃ k : Nat, k ≤ l.length ∧ i = .int .i64 k ∧ Hid (r = (l.drop k).any p) ∧ Hid (Below w.heap.size w wr)) (fun _ i _ => l.length - (intOf i).toNat)
  case atStart => exact ⟨0, Nat.zero_le _, rfl, HR0, Below.refl _ _⟩
  case round =>
    obtain ⟨k, hk, rfl, HR, HBW⟩ := hrel
    have i1 : (0 : Int) ≤ (k : Int) := Int.natCast_nonneg _
    by_cases hlt : k < l.length
    · have i2 : (k : Int) < (l.length : Int) := by omega
      rcases h3 with rfl | ⟨b, off, rfl, hbB, hl⟩
      · simp at hlt
      have hws := HBW.out.size
      have hlr : RepLP wr (fun b => b < w.heap.size) l b off := RepLP.mono (fun _ h => h) (fun p hp => HBW.out.cell hp) _ _ _ hbB hl
      obtain ⟨A, c, a0, a1, a2, a3, hra⟩ := hlr.get k hlt
      have HC := Lib.hid (HP.out l[k] (List.getElem_mem hlt) A c wr HBW.out (RepP.mono (fun b (h : b < w.heap.size) => by omega) (fun _ _ => rfl) _ _ _ hra))
      have hst : r = (p l[k] || (l.drop (k + 1)).any p) := by rw [HR.out, List.drop_eq_getElem_cons hlt, List.any_cons]
      obtain ⟨q, hq⟩ : ∃ q, q = p l[k] := ⟨_, rfl⟩
      rw [← hq] at HC hst
      have HST := Lib.hid hst; clear hst hq hlr hl
      simp only [Tm.val] at HC
      cases q with
      | true =>
        have hr : r = true := by rw [HST.out, Bool.true_or]
        subst hr
        clear HST
        go_wp2_with (go_at_fn g; refine HC.out.mono ?_; rintro e w' ⟨rfl, hb'⟩)
        go_ret
        exact ⟨k, rfl, decide_eq_true (by omega), HBW.out.trans (hb'.mono hws)⟩
      | false =>
        have HNX : Hid (r = (l.drop (k + 1)).any p) := by rw [HST.out, Bool.false_or]; exact rfl
        clear HST
        go_wp2_with (go_at_fn g; refine HC.out.mono ?_; rintro e w' ⟨rfl, hb'⟩)
        go_roundw
        case rel => exact ⟨k + 1, by omega, by go_num, HNX, HBW.out.trans (hb'.mono hws)⟩
        case measure => simp [intOf]; omega
    · obtain rfl : k = l.length := by omega
      have hr : r = false := by rw [HR.out, List.drop_length]; rfl
      subst hr
      go_wp2_with fail
      go_ret
      exact ⟨-1, rfl, by decide, HBW.out⟩

theorem containsT_any (l : List Tm) (A0 : Option Addr) (cap0 : Nat) (g : Nat) (caps : Array Value) (p : Tm → Bool) (w : World) (eg : ∀ args w, (callFunc g args).run Tryd.prog w = .ok (.enter g args) w) (hp : TestT g caps p l w) (hlen : l.length ≤ 1000000) (hrep : RepS w (fun b => b < w.heap.size) l A0 cap0) :
    Calls Tryd.prog 56 #[.slice A0 l.length cap0, .func (.func g) #[] caps] w fun e w' => e = .returned (.bool (l.any p)) ∧ Below w.heap.size w w' := by
  have HI := Lib.hid (indexT_any l A0 cap0 g caps p w eg hp hlen hrep)
  clear hp hrep
  generalize l.any p = r at *
  go_enter Tryd.func56, Tryd.ntmps56
  go_wp2_with fail
  refine HI.out.mono ?_
  rintro e w' ⟨n, rfl, hn, hb⟩
  go_wp2_with fail
  go_ret
  exact ⟨by rw [← hn]; rfl, hb⟩

/-- whether a term is a subterm -/
def occ (x t : Tm) : Bool := decide (x ∈ t.all)
theorem mem_alls {x : Tm} : ∀ {l : List Tm}, x ∈ Tm.alls l ↔ ∃ t ∈ l, x ∈ t.all
  | [] => by simp [Tm.alls]
  | t :: r => by rw [Tm.alls, List.mem_append, mem_alls]; simp
theorem rep_kids {w : World} {P : Nat → Prop} {t : Tm} {A : Option Addr} {c : Nat} (h : RepP w P t A c) : RepS w P t.kids A c := by
  obtain ⟨k, n, s, l⟩ := t
  rw [RepP_mk] at h
  exact h.2
theorem size_kids (t : Tm) : t.size = 1 + Tm.sizes t.kids := by
  obtain ⟨k, n, s, l⟩ := t
  rw [Tm.size]; rfl
theorem occ_eq (x t : Tm) : occ x t = (decide (x.cmp t = 0) || t.kids.any (occ x)) := by
  obtain ⟨k, n, so, l⟩ := t
  show _ = (_ || l.any (occ x))
  rw [Bool.eq_iff_iff]
  simp only [occ, decide_eq_true_eq, Bool.or_eq_true, List.any_eq_true, Tm.all, List.mem_cons, mem_alls, Tm.cmp_zero]

set_option maxHeartbeats 1000000 in
set_option maxRecDepth 100000 in
/-- the closure in occurs -/
theorem occ1_any (x t : Tm) (A A' : Option Addr) (c c' b : Nat) (w : World) (hb : b < w.heap.size) (hx : w.heap[b]? = some (boxT x A c))
    (hC : ∀ Z, Below w.heap.size w Z → Calls Tryd.prog 55 #[x.val A c, t.val A' c'] Z fun e w' => e = .returned (.bool (occ x t)) ∧ Below Z.heap.size Z w') :
    Calls Tryd.prog 79 #[t.val A' c', .pointer (some ⟨b, 0, none⟩)] w fun e w' => e = .returned (.bool (occ x t)) ∧ Below w.heap.size w w' := by
  obtain ⟨V, hV⟩ : ∃ V, V = w.alloc (boxT t A' c') := ⟨_, rfl⟩
  have hbV : Below w.heap.size w V := by rw [hV]; exact below1 (Nat.le_refl _) _
  have hx2 := (hbV.block _ hb).trans hx
  obtain ⟨a0, a1, a2, a3, -⟩ := box_at hx
  have HC := Lib.hid (hC V hbV); clear hC
  have HBV := Lib.hid hbV; clear hbV hx hx2
  simp only [boxT] at hV
  have HV := Lib.hid hV; clear hV
  generalize occ x t = q at *
  simp only [Tm.val] at HC ⊢
  go_enter Tryd.func79, Tryd.ntmps79
  go_wp2_with fail
  rw [← HV.out]
  refine HC.out.mono ?_
  rintro e w' ⟨rfl, hb'⟩
  go_wp2_with fail
  go_ret
  exact ⟨rfl, below_then HBV.out hb' HBV.out.size⟩

set_option maxHeartbeats 1000000 in
set_option maxRecDepth 100000 in
theorem soccurs_any (x : Tm) (A : Option Addr) (c : Nat) (hx : x.size ≤ 1000000) (n : Nat) : ∀ (t : Tm) (A' : Option Addr) (c' : Nat) (w : World), t.size ≤ n → n ≤ 1000000 → RepT w w.heap.size x A c → RepT w w.heap.size t A' c' →
    Calls Tryd.prog 55 #[x.val A c, t.val A' c'] w fun e w' => e = .returned (.bool (occ x t)) ∧ Below w.heap.size w w' := by
  induction n with
  | zero => intro t _ _ _ h; have := t.size_pos; omega
  | succ n ih =>
    intro t A' c' w hn hb hrx hrt
    obtain ⟨V, hV⟩ : ∃ V, V = (w.alloc (.cells #[.int .i64 x.kind, .string x.name, .int .i64 x.sort, .slice A x.kids.length c] 30)).alloc (.cells #[.int .i64 t.kind, .string t.name, .int .i64 t.sort, .slice A' t.kids.length c'] 30) := ⟨_, rfl⟩
    have h2 : Two w x t A A' c c' V := by rw [hV]; exact Two.new w x t A A' c c'
    have CM := compare_any 1000000 x t A A' c c' V hx (by omega) (by omega) (hrx.go h2.lay.below h2.lay.size) (hrt.go h2.lay.below h2.lay.size)
    have hoe := occ_eq x t
    obtain ⟨cm, hcm⟩ : ∃ v, v = x.cmp t := ⟨_, rfl⟩
    rw [← hcm] at CM hoe
    obtain ⟨r, hr⟩ : ∃ r, r = occ x t := ⟨_, rfl⟩
    rw [← hr] at hoe ⊢
    clear hcm hr
    have hrk := rep_kids hrt
    rw [size_kids] at hn
    have hls := Tm.length_le_sizes t.kids
    have HSZ : Hid (∀ k ∈ t.kids, k.size ≤ n) := fun k hk => by
      obtain ⟨i, hi, rfl⟩ := List.getElem_of_mem hk
      have := Tm.sizes_get t.kids i hi; omega
    have HRX := Lib.hid hrx; clear hrx hrt
    have HRT : Hid (RepS w (fun b => b < w.heap.size) t.kids A' c') := hrk; clear hrk
    have HOE := Lib.hid hoe; clear hoe
    have CM := Lib.hid CM
    have H2 := Lib.hid h2; clear h2
    have HV := Lib.hid hV; clear hV
    have IH := Lib.hid ih; clear ih
    obtain ⟨a0, a1, a2, a3, -⟩ := box_at H2.out.one
    obtain ⟨b0, b1, b2, b3, -⟩ := box_at H2.out.two
    simp only [Tm.val] at CM ⊢
    go_enter Tryd.func55, Tryd.ntmps55
    go_wp2_with fail
    rw [← HV.out]
    go_wp2_with fail
    refine CM.out.mono ?_; clear CM a0 a1 a2 a3 b0 b1 b2 b3 HV
    rintro e w1 ⟨rfl, hl1⟩
    have H21 := Lib.hid (H2.out.go hl1); clear H2 hl1
    obtain ⟨b0, b1, b2, b3, -⟩ := box_at H21.out.two
    rcases eq_facts cm 0 with ⟨h0, e0, n0⟩ | ⟨h0, e0, n0⟩
    · have hr : r = true := by rw [HOE.out, decide_eq_true h0, Bool.true_or]
      subst hr
      clear HOE h0
      go_wp2_with fail
      go_ret
      exact ⟨rfl, H21.out.lay.below⟩
    · have hr : r = t.kids.any (occ x) := by rw [HOE.out, decide_eq_false h0, Bool.false_or]
      have hws := H21.out.lay.size
      have hlt := H21.out.lt
      have CF := containsT_any t.kids A' c' 79 #[.pointer (some ⟨w.heap.size, 0, none⟩)] (occ x) w1 (enters_of Tryd.func79 (by kernel_rfl) rfl) (fun k hk B e Z hZ hrk => by
        refine occ1_any x k A B c e w.heap.size Z (by have := hZ.size; omega) ((hZ.block _ (by omega)).trans H21.out.one) (fun Y hY => ?_)
        have hY2 := below_then (H21.out.lay.below.trans (hZ.mono hws)) hY (by have := hZ.size; omega)
        exact IH.out k B e Y (HSZ.out k hk) (by omega) (HRX.out.go hY2 hY2.size) (hrk.go hY hY.size)) (by omega) (RepS.up (HRT.out.below H21.out.lay.below) hws)
      rw [← hr] at CF
      clear hr HOE h0
      have CF := Lib.hid CF
      go_wp2_with fail
      refine CF.out.mono ?_; clear CF
      rintro e w2 ⟨rfl, hb2⟩
      go_wp2_with fail
      go_ret
      exact ⟨rfl, H21.out.lay.below.trans (hb2.mono hws)⟩
end Go.Proofs.YtkbkgiihgghbeaaDoor
