/- slices.ContainsFunc over strings, and Parse's closure. -/
import Derived.Test.YtipmibjhlpnhjaaGreatDoorSspwalk
namespace Go.Proofs.YtipmibjhlpnhjaaGreatDoor
open Go.RowKit Go.Sort

/-- the package variable of internal/bytealg, that strings.Index reads -/
def Maxl (w : World) : Prop := 1 < w.heap.size ∧ ∃ m, w.cell? ⟨1, 0, none⟩ = some (.int .i64 m)
theorem Maxl.below {w w' : World} (h : Maxl w) (hb : Below w.heap.size w w') : Maxl w' :=
  ⟨Nat.lt_of_lt_of_le h.1 hb.size, by obtain ⟨m, hm⟩ := h.2; exact ⟨m, by rw [hb.cell (p := ⟨1, 0, none⟩) h.1]; exact hm⟩⟩

/-- what is asked of a closure over strings -/
def TestS (g : Nat) (p : List UInt8 → Bool) (xs : List ByteArray) (w : World) : Prop :=
  ∀ x ∈ xs, ∀ Z, Below w.heap.size w Z → Calls Tryz.prog g #[.string x] Z fun e w' => e = .returned (.bool (p x.data.toList)) ∧ Below Z.heap.size Z w'

set_option maxHeartbeats 1000000 in
set_option maxRecDepth 100000 in
theorem indexS_any (xs : List ByteArray) (b cap0 : Nat) (g : Nat) (p : List UInt8 → Bool) (w : World) (eg : ∀ args w, (callFunc g args).run Tryz.prog w = .ok (.enter g args) w) (hp : TestS g p xs w) (hlen : xs.length ≤ 1000000)
    (hb : b < w.heap.size) (hcells : ∀ j (h : j < xs.length), w.cell? ⟨b, j, none⟩ = some (.string xs[j])) :
    Calls Tryz.prog 118 #[.slice (some ⟨b, 0, none⟩) xs.length cap0, .func (.func g) #[] #[]] w fun e w' => ∃ n : Int, e = .returned (.int .i64 n) ∧ decide (0 ≤ n) = (xs.map (·.data.toList)).any p ∧ Below w.heap.size w w' := by
  have mixed : Tryz.prog.follows .mixedOrders = true := by kernel_rfl
  have HP := Lib.hid hp; clear hp
  have HC0 := Lib.hid hcells; clear hcells
  obtain ⟨r, hr⟩ : ∃ r, r = (xs.map (·.data.toList)).any p := ⟨_, rfl⟩
  rw [← hr]
  have HR0 : Hid (r = ((xs.drop 0).map (·.data.toList)).any p) := hr; clear hr
  go_enter Tryz.func118, Tryz.ntmps118
  go_wp2_with fail
  go_loopw [5, 8] (fun _ i wr => ∃ k : Nat, k ≤ xs.length ∧ i = .int .i64 k ∧ Hid (r = ((xs.drop k).map (·.data.toList)).any p) ∧ Hid (Below w.heap.size w wr)) (fun _ i _ => xs.length - (intOf i).toNat)
  case atStart => exact ⟨0, Nat.zero_le _, rfl, HR0, Below.refl _ _⟩
  case round =>
    obtain ⟨k, hk, rfl, HR, HBW⟩ := hrel
    have i1 : (0 : Int) ≤ (k : Int) := Int.natCast_nonneg _
    by_cases hlt : k < xs.length
    · have i2 : (k : Int) < (xs.length : Int) := by omega
      have hws := HBW.out.size
      have a0 : wr.cell? ⟨b, k, none⟩ = some (.string xs[k]) := by rw [HBW.out.cell (p := ⟨b, k, none⟩) hb]; exact HC0.out k hlt
      have HC := HP.out xs[k] (List.getElem_mem hlt) wr HBW.out
      have hst : r = (p xs[k].data.toList || ((xs.drop (k + 1)).map (·.data.toList)).any p) := by rw [HR.out, List.drop_eq_getElem_cons hlt, List.map_cons, List.any_cons]
      obtain ⟨q, hq⟩ : ∃ q, q = p xs[k].data.toList := ⟨_, rfl⟩
      rw [← hq] at HC hst
      have HST := Lib.hid hst; clear hst hq
      have HC := Lib.hid HC
      cases q with
      | true =>
        have hr : r = true := by rw [HST.out, Bool.true_or]
        subst hr
        clear HST
        go_wp2_with (go_at_fn g; refine HC.out.mono ?_; rintro e w' ⟨rfl, hb'⟩)
        go_ret
        exact ⟨k, rfl, decide_eq_true (by omega), HBW.out.trans (hb'.mono hws)⟩
      | false =>
        have HNX : Hid (r = ((xs.drop (k + 1)).map (·.data.toList)).any p) := by rw [HST.out, Bool.false_or]; exact rfl
        clear HST
        go_wp2_with (go_at_fn g; refine HC.out.mono ?_; rintro e w' ⟨rfl, hb'⟩)
        go_roundw
        case rel => exact ⟨k + 1, by omega, by go_num, HNX, HBW.out.trans (hb'.mono hws)⟩
        case measure => simp [intOf]; omega
    · obtain rfl : k = xs.length := by omega
      have hr : r = false := by rw [HR.out, List.drop_length]; rfl
      subst hr
      go_wp2_with fail
      go_ret
      exact ⟨-1, rfl, by decide, HBW.out⟩

theorem containsS_any (xs : List ByteArray) (b cap0 : Nat) (g : Nat) (p : List UInt8 → Bool) (w : World) (eg : ∀ args w, (callFunc g args).run Tryz.prog w = .ok (.enter g args) w) (hp : TestS g p xs w) (hlen : xs.length ≤ 1000000)
    (hb : b < w.heap.size) (hcells : ∀ j (h : j < xs.length), w.cell? ⟨b, j, none⟩ = some (.string xs[j])) :
    Calls Tryz.prog 71 #[.slice (some ⟨b, 0, none⟩) xs.length cap0, .func (.func g) #[] #[]] w fun e w' => e = .returned (.bool ((xs.map (·.data.toList)).any p)) ∧ Below w.heap.size w w' := by
  have HI := Lib.hid (indexS_any xs b cap0 g p w eg hp hlen hb hcells)
  clear hp hcells
  generalize (xs.map (·.data.toList)).any p = r at *
  go_enter Tryz.func71, Tryz.ntmps71
  go_wp2_with fail
  refine HI.out.mono ?_
  rintro e w' ⟨n, rfl, hn, hb⟩
  go_wp2_with fail
  go_ret
  exact ⟨by rw [← hn]; rfl, hb⟩

/-- the closure in Parse -/
theorem sparse1_any (x : ByteArray) (w : World) (hx : x.size ≤ 100000) (hm : Maxl w) :
    Calls Tryz.prog 72 #[.string x] w fun e w' => e = .returned (.bool (!Lib.contains x.data.toList [32, 61, 32])) ∧ Below w.heap.size w w' := by
  obtain ⟨-, m, hm⟩ := hm
  have HC := Lib.hid (Tryz.strings_Contains x ⟨#[32, 61, 32]⟩ m w (by omega) hm)
  have e2 : (⟨#[32, 61, 32]⟩ : ByteArray).data.toList = [32, 61, 32] := rfl
  rw [e2] at HC
  clear e2
  generalize Lib.contains x.data.toList [32, 61, 32] = q at *
  go_enter Tryz.func72, Tryz.ntmps72
  go_wp2_with fail
  refine HC.out.mono ?_
  rintro e w2 ⟨rfl, rfl⟩
  go_wp2_with fail
  go_ret
  exact ⟨rfl, Below.refl _ _⟩
end Go.Proofs.YtipmibjhlpnhjaaGreatDoor
