/- What a handed argument is: a term as a plain tree, a slice of terms as a list of them. -/
import Derived.Test.YtbgkabgbgbebaaaDoorRow
import Derived.Deep.Slices
import Derived.Deep.Fields
import Derived.Lib.SmallJoins
namespace Go.Proofs.YtbgkabgbgbebaaaDoor
open Go.ChangeShapes Go.WideShapes Go.Deep Go.Joins Go.RowKit

theorem cellsT : Tryd.prog.cellsOf 24 = 4 := by kernel_rfl
theorem cellsI : Tryd.prog.cellsOf 3 = 1 := by kernel_rfl
theorem cellsStr : Tryd.prog.cellsOf 9 = 1 := by kernel_rfl
theorem cellsS : Tryd.prog.cellsOf 22 = 1 := by kernel_rfl
theorem fieldsT : ∃ f0 f1 f2 f3 : Field, Tryd.prog.underlying 24 = some (.struct #[f0, f1, f2, f3]) ∧ (f0.type = 3 ∧ f0.offset = 0) ∧ (f1.type = 9 ∧ f1.offset = 1) ∧
    (f2.type = 3 ∧ f2.offset = 2) ∧ (f3.type = 22 ∧ f3.offset = 3) := ⟨_, _, _, _, Tryd.underlying24, ⟨rfl, rfl⟩, ⟨rfl, rfl⟩, ⟨rfl, rfl⟩, ⟨rfl, rfl⟩⟩

theorem RepLP.of_get {w : World} {P : Nat → Prop} : ∀ {l : List Tm} {b off : Nat}, (∀ i (h : i < l.length), ∃ A cap,
    w.cell? ⟨b, off + i * 4, none⟩ = some (.int .i64 l[i].kind) ∧ w.cell? ⟨b, off + i * 4 + 1, none⟩ = some (.string l[i].name) ∧
      w.cell? ⟨b, off + i * 4 + 2, none⟩ = some (.int .i64 l[i].sort) ∧ w.cell? ⟨b, off + i * 4 + 3, none⟩ = some (.slice A l[i].kids.length cap) ∧ RepP w P l[i] A cap) → RepLP w P l b off
  | [], _, _, _ => by rw [RepLP]; trivial
  | t :: r, b, off, h => by
    rw [RepLP]
    refine ⟨?_, RepLP.of_get fun i hi => ?_⟩
    · obtain ⟨A, cap, g0, g1, g2, g3, g4⟩ := h 0 (Nat.zero_lt_succ _)
      exact ⟨A, cap, by simpa using g0, by simpa using g1, by simpa using g2, by simpa using g3, g4⟩
    · have := h (i + 1) (by simp; omega)
      have e : off + (i + 1) * 4 = off + 4 + i * 4 := by omega
      simpa [e] using this

section
variable {H : Type} {enc : TypeId × Value → H} {w : World} {base : Nat} {spare : Nat → Bool} {held : Bool}

theorem World.block_lt {w : World} {a : Addr} {v : Value} (h : w.cell? a = some v) : a.block < w.heap.size := by
  unfold World.cell? at h
  split at h
  · rename_i c t f hb
    exact (Array.getElem?_eq_some_iff.1 hb).1
  · cases h

/-- A slice of terms, where each of its elements opens. -/
theorem open_list {n : Nat} (one : ∀ (cs : List Value) (x : DataW H × List MemPlace), DataW.trod enc Tryd.prog w base spare held n 24 cs = some x →
      ∃ (t : Tm) (A : Option Addr) (cap : Nat), cs = t.cells A cap ∧ RepT w w.heap.size t A cap)
    {a : Addr} {len cap : Nat} {elems : List (DataW H × List MemPlace)} (hl : len ≤ cap) (hm : cap ≤ maxLen) (hlen : elems.length = len)
    (hel : ∀ i, i < len → (w.cells? base (a.add (i * Tryd.prog.cellsOf 24)) (Tryd.prog.cellsOf 24)).bind (DataW.trod enc Tryd.prog w base spare held n 24) = elems[i]?) :
    ∃ l : List Tm, l.length = len ∧ RepS w (fun b => b < w.heap.size) l (some a) cap := by
  have step : ∀ i, i < len → ∃ t : Tm, ∃ A c, (∀ j, j < 4 → w.cell? ((a.add (i * 4)).add j) = (t.cells A c)[j]?) ∧ RepT w w.heap.size t A c := fun i hi => by
    have h := hel i hi
    rw [List.getElem?_eq_getElem (by omega), cellsT] at h
    obtain ⟨cs, hc, ht⟩ := Option.bind_eq_some_iff.1 h
    obtain ⟨t, A, c, rfl, hr⟩ := one _ _ ht
    exact ⟨t, A, c, (World.cells?_some hc).2.2, hr⟩
  obtain ⟨f, hf⟩ := choose_lt step
  refine ⟨(List.range len).map f, by simp, by simpa using hl, hm, ?_⟩
  by_cases h0 : len = 0
  · left; subst h0; rfl
  right
  obtain ⟨A0, c0, h00, _⟩ := hf 0 (by omega)
  have h000 := h00 0 (by omega)
  simp only [Tm.cells, Nat.zero_mul, Addr.add, if_true, List.getElem?_cons_zero] at h000
  have hs := World.cell?_spot h000
  have hb := World.block_lt h000
  obtain ⟨b, off, sp⟩ := a
  subst hs
  refine ⟨b, off, rfl, hb, RepLP.of_get fun i hi => ?_⟩
  obtain ⟨A, c, hc, hr⟩ := hf i (by simpa using hi)
  have e : ∀ j, ((⟨b, off, none⟩ : Addr).add (i * 4)).add j = ⟨b, off + i * 4 + j, none⟩ := fun j => by
    rw [add_add]; unfold Addr.add; split
    · rename_i h; rw [show off + i * 4 + j = off by omega]
    · rw [Nat.add_assoc]
  refine ⟨A, c, ?_, ?_, ?_, ?_, ?_⟩
  · have := hc 0 (by omega); rw [e] at this; simpa [Tm.cells] using this
  · have := hc 1 (by omega); rw [e] at this; simpa [Tm.cells] using this
  · have := hc 2 (by omega); rw [e] at this; simpa [Tm.cells] using this
  · have := hc 3 (by omega); rw [e] at this; simpa [Tm.cells] using this
  · rw [show ((List.range len).map f)[i] = f i by simp]; exact hr

set_option maxRecDepth 100000 in
theorem open_tm : ∀ (n : Nat) (cs : List Value) (x : DataW H × List MemPlace), DataW.trod enc Tryd.prog w base spare held n 24 cs = some x →
    ∃ (t : Tm) (A : Option Addr) (cap : Nat), cs = t.cells A cap ∧ RepT w w.heap.size t A cap := by
  intro n
  induction n using Nat.strongRecOn with
  | ind n ih =>
  intro cs x h
  obtain ⟨f0, f1, f2, f3, hu, ⟨t0, o0⟩, ⟨t1, o1⟩, ⟨t2, o2⟩, ⟨t3, o3⟩⟩ := fieldsT
  obtain ⟨xs, m, rfl, -, hcl, hxl, hf⟩ := DataW.trod_struct hu h
  rw [cellsT] at hcl
  simp only [List.size_toArray, List.length_cons, List.length_nil] at hxl
  match cs, hcl, xs, hxl with
  | [c0, c1, c2, c3], _, [x0, x1, x2, x3], _ =>
    have g0 := hf 0 f0 rfl
    have g1 := hf 1 f1 rfl
    have g2 := hf 2 f2 rfl
    have g3 := hf 3 f3 rfl
    rw [t0, o0, cellsI] at g0
    rw [t1, o1, cellsStr] at g1
    rw [t2, o2, cellsI] at g2
    rw [t3, o3, cellsS] at g3
    obtain ⟨k, hk, -, -⟩ := DataW.trod_int Tryd.underlying3 g0
    obtain ⟨s, hs, -, hsz⟩ := DataW.trod_string Tryd.underlying9 g1
    obtain ⟨q, hq, -, -⟩ := DataW.trod_int Tryd.underlying3 g2
    simp only [List.drop_zero, List.drop_succ_cons, List.take_succ_cons, List.take_zero, List.cons.injEq, and_true] at hk hs hq
    subst hk hs hq
    rcases DataW.trod_slice Tryd.underlying22 g3 with ⟨hn, -⟩ | ⟨a, len, cap, elems, rest, j, hj, hn, -, -, hl, hm, hlen, hel, -, -⟩
    · simp only [List.drop_succ_cons, List.drop_zero, List.take_succ_cons, List.take_zero, List.cons.injEq, and_true] at hn
      subst hn
      exact ⟨.mk k s q [], none, 0, rfl, by rw [RepT_mk]; exact ⟨hsz, Nat.zero_le _, Nat.zero_le _, .inl rfl⟩⟩
    · simp only [List.drop_succ_cons, List.drop_zero, List.take_succ_cons, List.take_zero, List.cons.injEq, and_true] at hn
      subst hn
      obtain ⟨l, hll, h1, h2, h3⟩ := open_list (fun cs x h => ih j (by omega) cs x h) hl hm hlen hel
      exact ⟨.mk k s q l, some a, cap, by simp [Tm.cells, Tm.kind, Tm.name, Tm.sort, Tm.kids, hll], by rw [RepT_mk]; exact ⟨hsz, h1, h2, h3⟩⟩

set_option maxRecDepth 100000 in
/-- The value of a handed term. -/
theorem open_term {v : Value} {d : DataW H} {p : List MemPlace} {r : Reach} {b0 : Nat} (hv : Value.okWide Tryd.prog w r b0 24 v) (h : DataW.Trod enc Tryd.prog w base spare held 24 v d p) :
    ∃ (t : Tm) (A : Option Addr) (cap : Nat), v = t.val A cap ∧ RepT w w.heap.size t A cap := by
  obtain ⟨f0, f1, f2, f3, hu, -⟩ := fieldsT
  obtain ⟨cs, rfl, -⟩ := okWide_struct hu hv
  obtain ⟨n, hn⟩ := h
  obtain ⟨t, A, cap, hc, hr⟩ := open_tm n _ _ hn
  refine ⟨t, A, cap, ?_, hr⟩
  obtain ⟨l⟩ := cs
  simp only [Value.cells] at hc
  subst hc
  rfl
set_option maxRecDepth 100000 in
/-- .. of a handed slice of terms. -/
theorem open_terms {v : Value} {d : DataW H} {p : List MemPlace} {r : Reach} {b0 : Nat} (hv : Value.okWide Tryd.prog w r b0 22 v) (h : DataW.Trod enc Tryd.prog w base spare held 22 v d p) :
    ∃ (l : List Tm) (A : Option Addr) (cap : Nat), v = .slice A l.length cap ∧ RepS w (fun b => b < w.heap.size) l A cap := by
  obtain ⟨A, len, cap, rfl⟩ := okWide_slice Tryd.underlying22 hv
  obtain ⟨n, hn⟩ := h
  rcases DataW.trod_slice Tryd.underlying22 hn with ⟨hn, -⟩ | ⟨a, len', cap', elems, rest, j, hj, hn, -, -, hl, hm, hlen, hel, -, -⟩
  · simp [Value.cells] at hn
    obtain ⟨rfl, rfl, rfl⟩ := hn
    exact ⟨[], none, 0, rfl, Nat.zero_le _, Nat.zero_le _, .inl rfl⟩
  · simp [Value.cells] at hn
    obtain ⟨rfl, rfl, rfl⟩ := hn
    obtain ⟨l, rfl, hr⟩ := open_list (fun cs x h => open_tm j cs x h) hl hm hlen hel
    exact ⟨l, some a, cap, rfl, hr⟩
end
end Go.Proofs.YtbgkabgbgbebaaaDoor
