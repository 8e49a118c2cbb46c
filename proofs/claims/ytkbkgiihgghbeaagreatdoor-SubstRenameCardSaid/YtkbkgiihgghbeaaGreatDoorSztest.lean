/- slices.ContainsFunc over terms. -/
import Derived.Test.YtkbkgiihgghbeaaGreatDoorSzplain
namespace Go.Proofs.YtkbkgiihgghbeaaGreatDoor
open Go.RowKit Go.Sort

/-- what is asked of a closure over terms -/
def TestT (g : Nat) (caps : Array Value) (p : Tm → Bool) (l : List Tm) (w : World) : Prop :=
  ∀ t ∈ l, ∀ (A : Option Addr) (c : Nat) (Z : World), Below w.heap.size w Z → RepT Z Z.heap.size t A c → Calls Tryz.prog g (#[t.val A c] ++ caps) Z fun e w' => e = .returned (.bool (p t)) ∧ Below Z.heap.size Z w'

set_option maxHeartbeats 1000000 in
set_option maxRecDepth 100000 in
theorem indexT_any (l : List Tm) (A0 : Option Addr) (cap0 : Nat) (g : Nat) (caps : Array Value) (p : Tm → Bool) (w : World) (eg : ∀ args w, (callFunc g args).run Tryz.prog w = .ok (.enter g args) w) (hp : TestT g caps p l w) (hlen : l.length ≤ 1000000) (hrep : RepS w (fun b => b < w.heap.size) l A0 cap0) :
    Calls Tryz.prog 56 #[.slice A0 l.length cap0, .func (.func g) #[] caps] w fun e w' => ∃ n : Int, e = .returned (.int .i64 n) ∧ decide (0 ≤ n) = l.any p ∧ Below w.heap.size w w' := by
  have mixed : Tryz.prog.follows .mixedOrders = true := by kernel_rfl
  obtain ⟨h1, h2, h3⟩ := hrep
  unfold maxLen at h2
  have HP := Lib.hid hp; clear hp
  obtain ⟨r, hr⟩ : ∃ r, r = l.any p := ⟨_, rfl⟩
  rw [← hr]
  have HR0 : Hid (r = (l.drop 0).any p) := hr; clear hr
  go_enter Tryz.func56, Tryz.ntmps56
  go_wp2_with fail
  go_loopw [5, 8] (fun _ i wr => ∃ k : Nat, k ≤ l.length ∧ i = .int .i64 k ∧ Hid (r = (l.drop k).any p) ∧ Hid (Below w.heap.size w wr)) (fun _ i _ => l.length - (intOf i).toNat)
  case atStart => exact ⟨0, Nat.zero_le _, rfl, HR0, Below.refl _ _⟩
  case round =>
    obtain ⟨k, hk, rfl, HR, HBW⟩ := hrel
    have i1 : (0 : Int) ≤ (k : Int) := Int.natCast_nonneg _
    by_cases hlt : k < l.length
    · have i2 : (k : Int) < (l.length : Int) := by omega
      rcases h3 with rfl | ⟨b, off, rfl, hbB, hl⟩
      · simp at hlt
      have hws := HBW.out.size
      have hlr : RepLP wr (fun b => b < w.heap.size) l b off := RepLP.mono (fun _ h => h) (fun p hp => HBW.out.cell hp) _ _ _ hbB hl
      obtain ⟨A, c, a0, a1, a2, a3, hra⟩ := hlr.get k hlt
      have HC := Lib.hid (HP.out l[k] (List.getElem_mem hlt) A c wr HBW.out (RepP.mono (fun b (h : b < w.heap.size) => by omega) (fun _ _ => rfl) _ _ _ hra))
      have hst : r = (p l[k] || (l.drop (k + 1)).any p) := by rw [HR.out, List.drop_eq_getElem_cons hlt, List.any_cons]
      obtain ⟨q, hq⟩ : ∃ q, q = p l[k] := ⟨_, rfl⟩
      rw [← hq] at HC hst
      have HST := Lib.hid hst; clear hst hq hlr hl
      simp only [Tm.val] at HC
      cases q with
      | true =>
        have hr : r = true := by rw [HST.out, Bool.true_or]
        subst hr
        clear HST
        go_wp2_with (go_at_fn g; refine HC.out.mono ?_; rintro e w' ⟨rfl, hb'⟩)
        go_ret
        exact ⟨k, rfl, decide_eq_true (by omega), HBW.out.trans (hb'.mono hws)⟩
      | false =>
        have HNX : Hid (r = (l.drop (k + 1)).any p) := by rw [HST.out, Bool.false_or]; exact rfl
        clear HST
        go_wp2_with (go_at_fn g; refine HC.out.mono ?_; rintro e w' ⟨rfl, hb'⟩)
        go_roundw
        case rel => exact ⟨k + 1, by omega, by go_num, HNX, HBW.out.trans (hb'.mono hws)⟩
        case measure => simp [intOf]; omega
    · obtain rfl : k = l.length := by omega
      have hr : r = false := by rw [HR.out, List.drop_length]; rfl
      subst hr
      go_wp2_with fail
      go_ret
      exact ⟨-1, rfl, by decide, HBW.out⟩

theorem containsT_any (l : List Tm) (A0 : Option Addr) (cap0 : Nat) (g : Nat) (caps : Array Value) (p : Tm → Bool) (w : World) (eg : ∀ args w, (callFunc g args).run Tryz.prog w = .ok (.enter g args) w) (hp : TestT g caps p l w) (hlen : l.length ≤ 1000000) (hrep : RepS w (fun b => b < w.heap.size) l A0 cap0) :
    Calls Tryz.prog 27 #[.slice A0 l.length cap0, .func (.func g) #[] caps] w fun e w' => e = .returned (.bool (l.any p)) ∧ Below w.heap.size w w' := by
  have HI := Lib.hid (indexT_any l A0 cap0 g caps p w eg hp hlen hrep)
  clear hp hrep
  generalize l.any p = r at *
  go_enter Tryz.func27, Tryz.ntmps27
  go_wp2_with fail
  refine HI.out.mono ?_
  rintro e w' ⟨n, rfl, hn, hb⟩
  go_wp2_with fail
  go_ret
  exact ⟨by rw [← hn]; rfl, hb⟩

theorem mem_alls {x : Tm} : ∀ {l : List Tm}, x ∈ Tm.alls l ↔ ∃ t ∈ l, x ∈ t.all
  | [] => by simp [Tm.alls]
  | t :: r => by rw [Tm.alls, List.mem_append, mem_alls]; simp

theorem longs_alls_of (sf : ByteArray) {l : List Tm} (h : ∀ t ∈ l, longE sf t = true) : longs sf l = true := by
  induction l with
  | nil => rfl
  | cons x r ih => rw [longs, h x (List.mem_cons_self ..), ih fun t ht => h t (List.mem_cons_of_mem _ ht)]; rfl
/-- what the closure of Rename asks -/
def tooB (sf : ByteArray) (x : Tm) : Bool := decide (24 < x.name.size + sf.size)
mutual
theorem longE_all (sf : ByteArray) : ∀ t : Tm, longE sf t = !((t.all.filter fun u => u.kind == 1).any (tooB sf))
  | .mk k n so l => by
    rw [longE, longs_all sf l, Tm.all, List.filter_cons]
    by_cases hk : k = 1
    · subst hk
      rw [if_pos (by rfl), List.any_cons, Bool.not_or]
      congr 1
      show (decide (¬ (1 : Int) = 1) || decide (n.size + sf.size ≤ 24)) = !decide (24 < n.size + sf.size)
      by_cases hn : n.size + sf.size ≤ 24
      · have : ¬ 24 < n.size + sf.size := by omega
        simp [hn, this]
      · have : 24 < n.size + sf.size := by omega
        simp [hn, this]
    · simp [Tm.kind, hk]
theorem longs_all (sf : ByteArray) : ∀ l : List Tm, longs sf l = !(((Tm.alls l).filter fun u => u.kind == 1).any (tooB sf))
  | [] => rfl
  | t :: r => by rw [longs, longE_all sf t, longs_all sf r, Tm.alls, List.filter_append, List.any_append, Bool.not_or]
end
end Go.Proofs.YtkbkgiihgghbeaaGreatDoor
