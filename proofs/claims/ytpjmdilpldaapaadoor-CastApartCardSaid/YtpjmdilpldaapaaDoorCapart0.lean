/- What is kept while two instances are made and their boxes laid. -/
import Derived.Test.YtpjmdilpldaapaaDoorCinstLaw
import Derived.Test.YtpjmdilpldaapaaDoorCinst2
import Derived.Test.YtpjmdilpldaapaaDoorCsat
namespace Go.Proofs.YtpjmdilpldaapaaDoor
open Go.RowKit Go.Sort

theorem u8_nat {n : Int} (h : (Lit.int .u8 n).wf = true) : ∃ t : Nat, n = t ∧ t < 256 := by
  simp only [Lit.wf, Bool.and_eq_true, decide_eq_true_eq] at h
  have h1 : (0 : Int) ≤ n := h.1
  have h2 : n ≤ 255 := h.2
  exact ⟨n.toNat, by omega, by omega⟩
def zeroB : Obj := .cells #[.int .i64 0, .string ⟨#[]⟩, .int .i64 0, .slice none 0 0] 35 (0, 0)
/-- the boxes that were laid in a region -/
structure AP (D y : World) (av : List Nat) : Prop where
  bel : Below D.heap.size D y
  bx : ∀ p ∈ av, D.heap.size ≤ p ∧ p < y.heap.size ∧ y.heap[p]? = some zeroB
  nd : av.Nodup
/-- a term that lies in none of them -/
def InstA (y : World) (av : List Nat) (r : Tm) (A : Option Addr) (c : Nat) : Prop := RepP y (fun k => k < y.heap.size ∧ ∀ p ∈ av, k ≠ p) r A c
theorem AP.nil (D : World) : AP D D [] := ⟨Below.refl _ _, by simp, List.nodup_nil⟩
theorem AP.call {D y y' : World} {av : List Nat} (h : AP D y av) (hb : Below y.heap.size y y') : AP D y' av :=
  ⟨h.bel.trans (hb.mono h.bel.size), fun p hp => ⟨(h.bx p hp).1, Nat.lt_of_lt_of_le (h.bx p hp).2.1 hb.size, (hb.block _ (h.bx p hp).2.1).trans (h.bx p hp).2.2⟩, h.nd⟩
theorem AP.alloc {D y y' : World} {av : List Nat} (h : AP D y av) (hy : y' = y.alloc (.cells #[.int .i64 0, .string ⟨#[]⟩, .int .i64 0, .slice none 0 0] 35)) : AP D y' (y.heap.size :: av) := by
  have hb : Below y.heap.size y y' := by rw [hy]; exact below1 (Nat.le_refl _) _
  have hc := h.call hb
  refine ⟨hc.bel, fun p hp => ?_, List.nodup_cons.2 ⟨fun hm => by have := (h.bx _ hm).2.1; omega, h.nd⟩⟩
  rcases List.mem_cons.1 hp with rfl | hp
  · exact ⟨h.bel.size, by rw [hy]; simp, by rw [hy]; exact heap_alloc_new _ _⟩
  · exact hc.bx p hp
theorem InstA.call {y y' : World} {av : List Nat} {r : Tm} {A : Option Addr} {c : Nat} (h : InstA y av r A c) (hb : Below y.heap.size y y') : InstA y' av r A c :=
  RepP.mono (fun k h => ⟨Nat.lt_of_lt_of_le h.1 hb.size, h.2⟩) (fun q hq => hb.cell hq.1) _ _ _ h
theorem InstA.alloc {y y' : World} {av : List Nat} {r : Tm} {A : Option Addr} {c : Nat} (h : InstA y av r A c) (hy : y' = y.alloc (.cells #[.int .i64 0, .string ⟨#[]⟩, .int .i64 0, .slice none 0 0] 35)) : InstA y' (y.heap.size :: av) r A c := by
  have hb : Below y.heap.size y y' := by rw [hy]; exact below1 (Nat.le_refl _) _
  refine RepP.mono (fun k h => ⟨Nat.lt_of_lt_of_le h.1 hb.size, fun p hp => ?_⟩) (fun q hq => hb.cell hq.1) _ _ _ h
  rcases List.mem_cons.1 hp with rfl | hp
  · have := h.1; omega
  · exact h.2 p hp
theorem InstA.new {D y y' : World} {av : List Nat} {r : Tm} {A : Option Addr} {c : Nat} (h : AP D y av) (hr : RepP y' (fun k => k < D.heap.size ∨ y.heap.size ≤ k ∧ k < y'.heap.size) r A c) (hb : Below y.heap.size y y') : InstA y' av r A c := by
  refine RepP.mono (fun k hk => ⟨?_, fun p hp => ?_⟩) (fun _ _ => rfl) _ _ _ hr
  · have := h.bel.size; have := hb.size
    omega
  · have := h.bx p hp
    omega
/-- both boxes hold the instances -/
structure Two (D Z : World) (p q : Nat) (x y : Tm) (A : Option Addr) (c : Nat) (A' : Option Addr) (c' : Nat) : Prop where
  bel : Below D.heap.size D Z
  lp : D.heap.size ≤ p
  lq : D.heap.size ≤ q
  bp : Z.heap[p]? = some (.cells #[.int .i64 x.kind, .string x.name, .int .i64 x.sort, .slice A x.kids.length c] 35 (0, 0))
  bq : Z.heap[q]? = some (.cells #[.int .i64 y.kind, .string y.name, .int .i64 y.sort, .slice A' y.kids.length c'] 35 (0, 0))
  rp : RepT Z Z.heap.size x A c
  rq : RepT Z Z.heap.size y A' c'
theorem Two.go {D Z Z' : World} {p q : Nat} {x y : Tm} {A : Option Addr} {c : Nat} {A' : Option Addr} {c' : Nat} (h : Two D Z p q x y A c A' c') (hb : Below Z.heap.size Z Z') : Two D Z' p q x y A c A' c' :=
  ⟨h.bel.trans (hb.mono h.bel.size), h.lp, h.lq, (hb.block _ (Array.getElem?_eq_some_iff.1 h.bp).1).trans h.bp, (hb.block _ (Array.getElem?_eq_some_iff.1 h.bq).1).trans h.bq, h.rp.go hb hb.size, h.rq.go hb hb.size⟩
theorem two_of {D Z Z1 Z2 : World} {av : List Nat} {p q : Nat} {x y : Tm} {A : Option Addr} {c : Nat} {A' : Option Addr} {c' : Nat} (h : AP D Z av) (hp : p ∈ av) (hq : q ∈ av) (hne : p ≠ q) (hx : InstA Z av x A c) (hy : InstA Z av y A' c')
    (h1 : Z1 = (((Z.setCell ⟨p, 0, none⟩ (.int .i64 x.kind)).setCell ⟨p, 1, none⟩ (.string x.name)).setCell ⟨p, 2, none⟩ (.int .i64 x.sort)).setCell ⟨p, 3, none⟩ (.slice A x.kids.length c))
    (h2 : Z2 = (((Z1.setCell ⟨q, 0, none⟩ (.int .i64 y.kind)).setCell ⟨q, 1, none⟩ (.string y.name)).setCell ⟨q, 2, none⟩ (.int .i64 y.sort)).setCell ⟨q, 3, none⟩ (.slice A' y.kids.length c')) :
    Below D.heap.size D Z1 ∧ Z1.heap[q]? = some zeroB ∧ Two D Z2 p q x y A c A' c' := by
  have hb1 : Below D.heap.size D Z1 := by rw [h1]; exact below_put _ _ _ _ h.bel (h.bx p hp).1
  have hs1 : Z1.heap.size = Z.heap.size := by rw [h1, size_put]
  have hs2 : Z2.heap.size = Z.heap.size := by rw [h2, size_put, hs1]
  have hbp1 : Z1.heap[p]? = some (.cells #[.int .i64 x.kind, .string x.name, .int .i64 x.sort, .slice A x.kids.length c] 35 (0, 0)) := by rw [h1]; exact heap_put4 (h.bx p hp).2.2
  have hbq1 : Z1.heap[q]? = some zeroB := by
    rw [h1]
    iterate 4 rw [Below.heap_setCell _ _ _ _ (by first | exact hne | exact hne.symm)]
    exact (h.bx q hq).2.2
  refine ⟨hb1, hbq1, by rw [h2]; exact below_put _ _ _ _ hb1 (h.bx q hq).1, (h.bx p hp).1, (h.bx q hq).1, ?_, by rw [h2]; exact heap_put4 hbq1, ?_, ?_⟩
  · rw [h2]
    iterate 4 rw [Below.heap_setCell _ _ _ _ (by first | exact hne | exact hne.symm)]
    exact hbp1
  · refine RepP.mono (fun k hk => by rw [hs2]; exact hk.1) (fun r hr => ?_) _ _ _ hx
    rw [h2, box_put _ _ _ _ (hr.2 q hq), h1, box_put _ _ _ _ (hr.2 p hp)]
  · refine RepP.mono (fun k hk => by rw [hs2]; exact hk.1) (fun r hr => ?_) _ _ _ hy
    rw [h2, box_put _ _ _ _ (hr.2 q hq), h1, box_put _ _ _ _ (hr.2 p hp)]
end Go.Proofs.YtpjmdilpldaapaaDoor
