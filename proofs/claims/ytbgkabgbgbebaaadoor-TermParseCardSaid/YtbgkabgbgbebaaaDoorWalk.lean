/- walk: the subterms of a term, in preorder. -/
import Derived.Test.YtbgkabgbgbebaaaDoorVisit
namespace Go.Proofs.YtbgkabgbgbebaaaDoor
open Go.RowKit

mutual
def Tm.all : Tm → List Tm
  | .mk k n s l => .mk k n s l :: Tm.alls l
def Tm.alls : List Tm → List Tm
  | [] => []
  | t :: r => Tm.all t ++ Tm.alls r
end
mutual
theorem Tm.all_length : ∀ t : Tm, t.all.length = t.size
  | .mk k n s l => by rw [Tm.all, Tm.size, List.length_cons, Tm.alls_length l]; omega
theorem Tm.alls_length : ∀ l : List Tm, (Tm.alls l).length = Tm.sizes l
  | [] => by simp [Tm.alls, Tm.sizes]
  | t :: r => by rw [Tm.alls, Tm.sizes, List.length_append, Tm.all_length t, Tm.alls_length r]
end
theorem Tm.alls_take_succ : ∀ (l : List Tm) (i : Nat) (h : i < l.length), Tm.alls (l.take (i + 1)) = Tm.alls (l.take i) ++ l[i].all
  | [], _, h => by simp at h
  | t :: r, 0, _ => by simp [Tm.alls]
  | t :: r, i + 1, h => by have := Tm.alls_take_succ r i (by simpa using h); simp [Tm.alls] at this ⊢; rw [this]

/-- what a closure that is handed to walk does, at every term below B0: it gathers those of which p holds -/
def Visits (g : Nat) (caps : Array Value) (p : Tm → Bool) (B0 cb : Nat) (w0 : World) : Prop :=
  ∀ (t : Tm) (A : Option Addr) (cap : Nat) (w : World) (its : List It), Acc B0 cb w0 w its → RepT w B0 t A cap → its.length ≤ 10000000 →
    Calls Tryd.prog g (#[t.val A cap] ++ caps) w fun e w' => e = .returned (.tuple #[]) ∧ Step cb w w' ∧ ∃ its', Acc B0 cb w0 w' its' ∧ its'.map (·.1) = its.map (·.1) ++ [t].filter p

def Walked (B0 cb : Nat) (w0 w : World) (l : List Tm) (e : Ending) (w' : World) : Prop :=
  e = .returned (.tuple #[]) ∧ Step cb w w' ∧ ∃ its', Acc B0 cb w0 w' its' ∧ its'.map (·.1) = l

theorem visits_gather (B0 cb : Nat) (w0 : World) : Visits 54 #[.pointer (some ⟨cb, 0, none⟩)] (fun _ => true) B0 cb w0 := fun t A cap w its hacc hrep hlen =>
  (gather_any t A cap B0 cb w0 w its hacc hrep hlen).mono fun _ _ ⟨he, h, hs⟩ => ⟨he, hs, _, h, by simp⟩
theorem visits_kind (B0 cb kb : Nat) (kd : Int) (w0 : World) (hkb : w0.cell? ⟨kb, 0, none⟩ = some (.int .i64 kd)) (hk : kb < B0) :
    Visits 71 #[.pointer (some ⟨kb, 0, none⟩), .pointer (some ⟨cb, 0, none⟩)] (fun t => t.kind == kd) B0 cb w0 := fun t A cap w its hacc hrep hlen => by
  have hc : w.cell? ⟨kb, 0, none⟩ = some (.int .i64 kd) := (hacc.below.cell hk).trans hkb
  have hl : kb < w.heap.size := by have := hacc.lt; have := hacc.le; omega
  by_cases h : t.kind = kd
  · exact (gatherKind_any t kd kb A cap B0 cb w0 w its hacc hrep hlen hc hl h).mono fun _ _ ⟨he, ha, hs⟩ => ⟨he, hs, _, ha, by simp [h]⟩
  · exact (gatherKind_no t kd kb cb A cap w hc hl h).mono fun _ _ ⟨he, hb⟩ => ⟨he, Step.of_below hb hacc.lt, its, hacc.keep hb, by simp [h]⟩

set_option maxHeartbeats 2000000 in
set_option maxRecDepth 100000 in
theorem walk_any (g : Nat) (caps : Array Value) (p : Tm → Bool) (B0 cb : Nat) (w0 : World) (hv : Visits g caps p B0 cb w0)
    (eg : ∀ args w, (callFunc g args).run Tryd.prog w = .ok (.enter g args) w) (n : Nat) :
    ∀ (t : Tm) (A : Option Addr) (cap : Nat) (w : World) (its : List It), t.size ≤ n → its.length + t.size ≤ 10000000 → Acc B0 cb w0 w its → RepT w B0 t A cap →
    Calls Tryd.prog 53 #[t.val A cap, .func (.func g) #[] caps] w (Walked B0 cb w0 w (its.map (·.1) ++ t.all.filter p)) := by
  induction n with
  | zero => intro t _ _ _ _ h; have := t.size_pos; omega
  | succ n ih =>
    intro t A cap w its hn hlen hacc hrep
    have hrep0 := hrep
    obtain ⟨tk, tn, ts, l⟩ := t
    have hbl : Below B0 w (w.alloc (.cells #[.int .i64 tk, .string tn, .int .i64 ts, .slice A l.length cap] 24)) := by
      have := hacc.le; have := hacc.lt
      exact below1 (by omega) _
    have HV := Lib.hid (hv (.mk tk tn ts l) A cap (w.alloc (.cells #[.int .i64 tk, .string tn, .int .i64 ts, .slice A l.length cap] 24)) its (hacc.keep (below1 (Nat.le_refl _) _)) (hrep0.go hbl (Nat.le_refl _)) (by omega))
    rw [Tm.size] at hn hlen
    rw [RepT_mk] at hrep
    obtain ⟨hr1, hr2, hr3, hr4⟩ := hrep
    have HVS := Lib.hid hv; clear hv
    have IH := Lib.hid ih; clear ih
    simp only [Tm.val, Tm.kind, Tm.name, Tm.sort, Tm.kids] at HV ⊢
    go_enter Tryd.func53, Tryd.ntmps53
    go_wp2_with fail
    refine HV.out.mono ?_
    rintro e w1 ⟨rfl, hst1, its1, hacc1, hmap1⟩
    obtain ⟨W, hW⟩ : ∃ W, W = w.alloc (.cells #[.int .i64 tk, .string tn, .int .i64 ts, .slice A l.length cap] 24) := ⟨_, rfl⟩
    rw [← hW] at hst1
    have hbW : W.heap[w.heap.size]? = some (.cells #[.int .i64 tk, .string tn, .int .i64 ts, .slice A l.length cap] 24 (0, 0)) := by rw [hW]; exact heap_alloc_new _ _
    have hsW : W.heap.size = w.heap.size + 1 := by rw [hW]; simp
    have hStep : Step cb w W := by rw [hW]; exact Step.of_below (below1 (Nat.le_refl _) _) hacc.lt
    have hoW : ownAt W cb ≠ some w.heap.size := by
      obtain ⟨v, hb, hr⟩ := hacc.box
      have e : ownAt w cb = v.ownBlock := by unfold ownAt; simp [World.cell?, hb]
      have hlt := hacc.lt
      rw [hW]; unfold ownAt
      rw [(below1 (Nat.le_refl _) _).cell (by exact hlt)]
      show ownAt w cb ≠ _
      rw [e]; intro h; have := (hr.lt _ h).2; omega
    have hcbne : w.heap.size ≠ cb := by have := hacc.lt; omega
    have hbox1 : w1.heap[w.heap.size]? = some (.cells #[.int .i64 tk, .string tn, .int .i64 ts, .slice A l.length cap] 24 (0, 0)) := (hst1.same _ (by omega) hcbne hoW).trans hbW
    have hst01 := hStep.trans hst1
    have hc3 : w1.cell? ⟨w.heap.size, 3, none⟩ = some (.slice A l.length cap) := by simp [World.cell?, hbox1]
    have hlen1 : its1.length = its.length + ([Tm.mk tk tn ts l].filter p).length := by have := congrArg List.length hmap1; simpa using this
    have hf1 : ([Tm.mk tk tn ts l].filter p).length ≤ 1 := List.length_filter_le _ _
    have HMAP1 := Lib.hid hmap1; clear hmap1
    have HB1 := Lib.hid hbox1; clear hbox1
    have HW := Lib.hid hW; clear hW hbW hsW
    have hls := Tm.length_le_sizes l
    go_wp2_with fail
    go_loopw [12] (fun i wr => ∃ (k : Nat) (its' : List It), k ≤ l.length ∧ i = .int .i64 k ∧ Acc B0 cb w0 wr its' ∧ Step cb w wr ∧ Hid (its'.map (·.1) = its.map (·.1) ++ [Tm.mk tk tn ts l].filter p ++ (Tm.alls (l.take k)).filter p))
      (fun i _ => l.length - (intOf i).toNat)
    case atStart => exact ⟨0, its1, Nat.zero_le _, rfl, hacc1, hst01, by rw [HMAP1.out]; simp [Tm.alls, Hid]⟩
    case round =>
      obtain ⟨k, its', hk, rfl, hacc', hst', HM⟩ := hrel
      by_cases hlt : k < l.length
      · rcases hr4 with rfl | ⟨b, off, rfl, hbB, hl⟩
        · simp at hlt
        have hcbl := hacc'.lt
        have hcble := hacc'.le
        have hwr : Below B0 w wr := ⟨(hacc'.below.os).trans hacc.below.os.symm, (hacc'.below.tape).trans hacc.below.tape.symm, (hacc'.below.output).trans hacc.below.output.symm, hst'.size, fun b hb => (hacc'.below.block b hb).trans (hacc.below.block b hb).symm⟩
        obtain ⟨A', cap', h0, h1, h2, h3, h5⟩ := (hl.below hwr hbB).get k hlt
        have hsg := Tm.sizes_get l k hlt
        have htk := Tm.sizes_take_succ l k hlt
        have htl := Tm.sizes_take_le l (k + 1)
        have hlen' : its'.length ≤ its.length + 1 + Tm.sizes (l.take k) := by
          have h := congrArg List.length HM.out
          have h2 := List.length_filter_le p (Tm.alls (l.take k))
          rw [Tm.alls_length] at h2
          simp only [List.length_map, List.length_append] at h; omega
        have HC : Hid (∀ X, Below wr.heap.size wr X → Calls Tryd.prog 53 #[l[k].val A' cap', .func (.func g) #[] caps] X (Walked B0 cb w0 X (its'.map (·.1) ++ l[k].all.filter p))) := fun X hX =>
          IH.out l[k] A' cap' X its' (by omega) (by omega) (hacc'.keep hX) (h5.go (hX.mono (by omega)) (Nat.le_refl _))
        clear h5 htk htl hlen'
        simp only [Tm.val] at HC
        go_wp2_with fail
        refine (HC.out _ (below1 (Nat.le_refl _) _)).mono ?_
        rintro e w2 ⟨rfl, hst2, its2, hacc2, hmap2⟩
        have HM2 := Lib.hid hmap2; clear hmap2
        go_wp2_with fail
        go_roundw
        case rel => exact ⟨k + 1, its2, by omega, by go_num, hacc2, hst'.trans ((Step.of_below (below1 (Nat.le_refl _) _) hcbl).trans hst2), by rw [HM2.out, HM.out, Tm.alls_take_succ l k hlt]; simp [Hid]⟩
        case measure => simp [intOf]; omega
      · obtain rfl : k = l.length := by omega
        go_wp2_with fail
        go_end0
        exact ⟨rfl, hst', its', hacc', by rw [HM.out, Tm.all]; simp [List.filter_cons]; split <;> simp⟩
end Go.Proofs.YtbgkabgbgbebaaaDoor
