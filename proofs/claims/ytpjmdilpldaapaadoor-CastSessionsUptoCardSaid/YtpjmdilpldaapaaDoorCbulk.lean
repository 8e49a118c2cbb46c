/- What the bound on the bulk of a handed cast gives. -/
import Derived.Test.YtpjmdilpldaapaaDoorCvalid
import Derived.Test.YtpjmdilpldaapaaDoorRows
namespace Go.Proofs.YtpjmdilpldaapaaDoor
open Go.ChangeShapes Go.WideShapes Go.Deep Go.Joins Go.RowKit

theorem bulk_one {H : Type} (d : DataW H) : 1 ≤ Rows.uptoBulk d := by
  cases d with
  | lit l => cases l <;> simp [Rows.uptoBulk]
  | nil => simp [Rows.uptoBulk]
  | ptr d => simp [Rows.uptoBulk]
  | slice elems spare => simp [Rows.uptoBulk]
  | agg parts => simp [Rows.uptoBulk]
  | iface t d => simp [Rows.uptoBulk]
  | map entries => simp [Rows.uptoBulk]
  | held h => simp [Rows.uptoBulk]
theorem bulk_length {H : Type} (l : List (DataW H)) : l.length ≤ Rows.uptoBulkAll l := by
  induction l with
  | nil => simp [Rows.uptoBulkAll]
  | cons x r ih => have := bulk_one x; simp only [Rows.uptoBulkAll, List.length_cons]; omega
/-- a part of a datum that holds so many values -/
def PartN {H : Type} (l : List ByteArray) (d : DataW H) : Prop := l = [] ∨ ∃ es rs, d = .slice es rs ∧ es.length = l.length
theorem PartN.bulk {H : Type} {l : List ByteArray} {d : DataW H} (h : PartN l d) : l.length ≤ Rows.uptoBulk d := by
  rcases h with rfl | ⟨es, rs, rfl, he⟩
  · simp
  · have := bulk_length es
    simp only [Rows.uptoBulk]
    omega
def CastD {H : Type} (ags bad : List ByteArray) (d : DataW H) : Prop := ∃ d0 d1, d = .agg [d0, d1] ∧ PartN ags d0 ∧ PartN bad d1
theorem CastD.bulk {H : Type} {ags bad : List ByteArray} {d : DataW H} (h : CastD ags bad d) : ags.length + bad.length ≤ Rows.uptoBulk d := by
  obtain ⟨d0, d1, rfl, h0, h1⟩ := h
  have := h0.bulk
  have := h1.bulk
  simp only [Rows.uptoBulk, Rows.uptoBulkAll]
  omega
theorem cast_room {H : Type} {ags bad : List ByteArray} {d : DataW H} {r : List (DataW H)} (h : CastD ags bad d) (hk : Rows.uptoSmall H (d :: r) = true) : (ags.length + bad.length) * 16 ≤ 140737488355328 := by
  have hb := h.bulk
  have h2 := of_decide_eq_true hk
  simp only [Rows.uptoBulkAll] at h2
  omega

section
variable {H : Type} {enc : TypeId × Value → H} {w : World} {base : Nat} {spare : Nat → Bool} {held : Bool}
set_option maxRecDepth 100000 in
theorem open_strsB (n : Nat) (cs : List Value) (x : DataW H × List MemPlace) (h : DataW.trod enc Tryd.prog w base spare held n 22 cs = some x) :
    ∃ (l : List ByteArray) (A : Option Addr) (cap : Nat), cs = [.slice A l.length cap] ∧ RepN w (fun b => b < w.heap.size) l A cap ∧ PartN l x.1 := by
  obtain ⟨l, A, cap, hcs, hR⟩ := open_strs n cs x h
  refine ⟨l, A, cap, hcs, hR, ?_⟩
  obtain ⟨d, p⟩ := x
  rcases open_slice1 Tryd.underlying22 cellsStr h with ⟨hcs', -⟩ | ⟨a, len, cap', m, j, V, D, Pl, hcs', -, hl, hm, hmm, hx, hi⟩
  · rw [hcs'] at hcs
    simp only [List.cons.injEq, Value.slice.injEq, and_true] at hcs
    exact .inl (List.length_eq_zero_iff.1 hcs.2.1.symm)
  · rw [hcs'] at hcs
    simp only [List.cons.injEq, Value.slice.injEq, and_true] at hcs
    simp only [Prod.mk.injEq] at hx
    exact .inr ⟨_, _, hx.1, by rw [List.length_map, List.length_range]; exact hcs.2.1⟩
set_option maxRecDepth 100000 in
/-- A handed cast. -/
theorem open_castB {v : Value} {d : DataW H} {p : List MemPlace} {r : Reach} {b0 : Nat} (hv : Value.okWide Tryd.prog w r b0 24 v) (h : DataW.Trod enc Tryd.prog w base spare held 24 v d p) :
    ∃ (ags bad : List ByteArray) (Aa : Option Addr) (ca : Nat) (Ab : Option Addr) (cb : Nat), v = castV ags bad Aa ca Ab cb ∧ CastW w ags bad Aa ca Ab cb ∧ CastD ags bad d := by
  obtain ⟨f0, f1, hu, ⟨t0, o0⟩, ⟨t1, o1⟩⟩ := fieldsCast
  obtain ⟨cs, rfl, -⟩ := okWide_struct hu hv
  obtain ⟨n, hn⟩ := h
  obtain ⟨y0, y1, m, hd, hcl, g0, g1⟩ := trod_struct2 hu hn
  rw [cellsCast] at hcl
  obtain ⟨cl⟩ := cs
  simp only [Value.cells] at hcl g0 g1
  match cl, hcl with
  | [c0, c1], _ =>
    rw [t0, o0, cellsN] at g0
    rw [t1, o1, cellsN] at g1
    obtain ⟨l, A, c, e0, r0, b0⟩ := open_strsB m _ _ g0
    obtain ⟨l', A', c', e1, r1, b1⟩ := open_strsB m _ _ g1
    simp only [List.drop_zero, List.drop_succ_cons, List.take_succ_cons, List.take_zero, List.cons.injEq, and_true] at e0 e1
    subst e0 e1
    simp only [Prod.mk.injEq] at hd
    exact ⟨l, l', A, c, A', c', rfl, ⟨r0, r1⟩, _, _, hd.1, b0, b1⟩
end
end Go.Proofs.YtpjmdilpldaapaaDoor
