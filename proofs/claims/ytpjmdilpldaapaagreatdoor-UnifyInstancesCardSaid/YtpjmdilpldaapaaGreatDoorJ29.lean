/- Sopen (joined by shake.py). -/
import Derived.Test.YtpjmdilpldaapaaGreatDoorJGi
import Derived.Test.YtpjmdilpldaapaaGreatDoorJ6
import Derived.SizedLaws
set_option maxRecDepth 100000
namespace Go.Proofs.YtpjmdilpldaapaaGreatDoor
open Go.ChangeShapes Go.WideShapes Go.Deep Go.Joins Go.RowKit
theorem cellsB : Tryz.prog.cellsOf 48 = 8 := by kernel_rfl
theorem bytesB : Tryz.prog.bytesOf 48 = 112 := by kernel_rfl
theorem fieldsB : ∃ f0 f1 : Field, Tryz.prog.underlying 48 = some (.struct #[f0, f1]) ∧ (f0.type = 24 ∧ f0.offset = 0) ∧ (f1.type = 24 ∧ f1.offset = 4) :=
 ⟨_, _, Tryz.underlying48, ⟨rfl, rfl⟩, ⟨rfl, rfl⟩⟩
theorem qal.of_get8 {w : World} {P : Nat → Prop} : ∀ {l : List Bd} {b off : Nat}, (∀ i (h : i < l.length), ∃ A c A' c', At8 w P b (off + i * 8) l[i] A c A' c') → qal w P (flat l) b off
 | [], _, _, _ => by rw [flat, qal]; trivial
 | x :: r, b, off, h => by
  obtain ⟨A, c, A', c', h8⟩ := h 0 (Nat.zero_lt_succ _);simp only [Nat.zero_mul, Nat.add_zero, List.getElem_cons_zero] at h8;rw [flat, qal, qal];refine ⟨⟨A, c, h8.c0, h8.c1, h8.c2, h8.c3, h8.r1⟩, ⟨A', c', h8.c4, h8.c5, h8.c6, h8.c7, h8.r2⟩, qal.of_get8 fun i hi => ?_⟩;have := h (i + 1) (by simp; omega);have e : off + (i + 1) * 8 = off + 4 + 4 + i * 8 := by omega
  simpa [e] using this
section
variable {H : Type} {enc : TypeId × Value → H} {w : World} {base : Nat} {spare : Nat → Bool} {held : Bool}
theorem open_bd (n : Nat) (cs : List Value) (x : DataW H × List MemPlace) (h : DataW.trod enc Tryz.prog w base spare held n 48 cs = some x) :
  ∃ (b : Bd) (A : Option Addr) (c : Nat) (A' : Option Addr) (c' : Nat), cs = b.1.cells A c ++ b.2.cells A' c' ∧ RepT w w.heap.size b.1 A c ∧ RepT w w.heap.size b.2 A' c' := by
 obtain ⟨f0, f1, hu, ⟨t0, o0⟩, ⟨t1, o1⟩⟩ := fieldsB;obtain ⟨xs, m, rfl, -, hcl, hxl, hf⟩ := DataW.trod_struct hu h;rw [cellsB] at hcl;simp only [List.size_toArray, List.length_cons, List.length_nil] at hxl
 match xs, hxl with
 | [x0, x1], _ =>
  have g0 := hf 0 f0 rfl;have g1 := hf 1 f1 rfl;rw [t0, o0, qna] at g0;rw [t1, o1, qna] at g1;obtain ⟨t, A, c, e0, r0⟩ := qjp m _ _ g0;obtain ⟨u, A', c', e1, r1⟩ := qjp m _ _ g1;refine ⟨(t, u), A, c, A', c', ?_, r0, r1⟩;rw [← e0, ← e1, List.drop_zero, List.take_of_length_le (l := cs.drop 4) (by rw [List.length_drop]; omega), List.take_append_drop]
theorem qn1 {v : Value} {d : DataW H} {p : List MemPlace} {r : Reach} {b0 : Nat} (hv : Value.okWide Tryz.prog w r b0 27 v) (h : DataW.Trod enc Tryz.prog w base spare held 27 v d p) :
  ∃ (l : List Bd) (A : Option Addr) (cap : Nat), v = .slice A l.length cap ∧ RepB w (fun b => b < w.heap.size) l A cap ∧ (l = [] ∨ ∃ es rs, d = .slice es rs ∧ es.length = l.length) := by
 obtain ⟨A, len, cap, rfl⟩ := okWide_slice Tryz.underlying27 hv;obtain ⟨n, hn⟩ := h;rcases DataW.trod_slice Tryz.underlying27 hn with ⟨hn, -⟩ | ⟨a, len', cap', elems, rest, j, hj, hn, hx, -, hl, hm, hlen, hel, -, -⟩
 ·simp [Value.cells] at hn;obtain ⟨rfl, rfl, rfl⟩ := hn;exact ⟨[], none, 0, rfl, ⟨Nat.zero_le _, Nat.zero_le _, .inl rfl⟩, .inl rfl⟩
 ·simp [Value.cells] at hn;obtain ⟨rfl, rfl, rfl⟩ := hn;have hd : d = .slice (elems.map (·.1)) (rest.map (·.1)) := congrArg Prod.fst hx;have step : ∀ i, i < len → ∃ b : Bd, ∃ A c A' c', (∀ j, j < 8 → w.cell? ((a.add (i * 8)).add j) = (b.1.cells A c ++ b.2.cells A' c')[j]?) ∧ RepT w w.heap.size b.1 A c ∧ RepT w w.heap.size b.2 A' c' := fun i hi => by
   have h := hel i hi;rw [List.getElem?_eq_getElem (by omega), cellsB] at h;obtain ⟨cs, hc, ht⟩ := Option.bind_eq_some_iff.1 h;obtain ⟨b, A, c, A', c', rfl, hr⟩ := open_bd j _ _ ht;exact ⟨b, A, c, A', c', (World.cells?_some hc).2.2, hr⟩
  obtain ⟨f, hf⟩ := choose_lt step;refine ⟨(List.range len).map f, some a, cap, by simp, ⟨by simpa using hl, hm, ?_⟩, .inr ⟨_, _, hd, by simp [hlen]⟩⟩;by_cases h0 : len = 0
  ·left; subst h0; rfl
  right;obtain ⟨A0, c0, A1, c1, h00, _⟩ := hf 0 (by omega);have h000 := h00 0 (by omega);simp only [Tm.cells, Nat.zero_mul, Addr.add, if_true, List.cons_append, List.getElem?_cons_zero] at h000;have hs := World.cell?_spot h000;have hb := World.block_lt h000;obtain ⟨b, off, sp⟩ := a;subst hs;refine ⟨b, off, rfl, hb, qal.of_get8 fun i hi => ?_⟩;obtain ⟨A, c, A', c', hc, r0, r1⟩ := hf i (by simpa using hi);have e : ∀ j, ((⟨b, off, none⟩ : Addr).add (i * 8)).add j = ⟨b, off + i * 8 + j, none⟩ := fun j => by
   rw [add_add]; unfold Addr.add; split
   ·rename_i h; rw [show off + i * 8 + j = off by omega]
   ·rw [Nat.add_assoc]
  have ei : ((List.range len).map f)[i] = f i := by simp
  rw [ei];refine ⟨A, c, A', c', ?_, ?_, ?_, ?_, ?_, ?_, ?_, ?_, r0, r1⟩
  ·have := hc 0 (by omega); rw [e] at this; simpa [Tm.cells] using this
  ·have := hc 1 (by omega); rw [e] at this; simpa [Tm.cells] using this
  ·have := hc 2 (by omega); rw [e] at this; simpa [Tm.cells] using this
  ·have := hc 3 (by omega); rw [e] at this; simpa [Tm.cells] using this
  ·have := hc 4 (by omega); rw [e] at this; simpa [Tm.cells] using this
  ·have := hc 5 (by omega); rw [e] at this; simpa [Tm.cells] using this
  ·have := hc 6 (by omega); rw [e] at this; simpa [Tm.cells] using this
  ·have := hc 7 (by omega); rw [e] at this; simpa [Tm.cells] using this
theorem qoq {ts : List TypeId} {ds : List (DataW H)} (h : (DataW.weightsEach Tryz.prog ts ds).all (· ≤ reachBytes) = true) {j : Nat} {d : DataW H} {l : List Bd} (ht : ts[j]? = some 27) (hd : ds[j]? = some d)
  (hl : l = [] ∨ ∃ es rs, d = .slice es rs ∧ es.length = l.length) : l.length * 112 ≤ 140737488355328 := by
 rcases hl with rfl | ⟨es, rs, rfl, he⟩
 ·simp
 ·have := sized_slice h ht hd Tryz.underlying27;rw [bytesB] at this;unfold reachBytes at this;omega
end
end Go.Proofs.YtpjmdilpldaapaaGreatDoor
