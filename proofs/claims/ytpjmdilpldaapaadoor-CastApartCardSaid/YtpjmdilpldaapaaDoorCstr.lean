/- Slices of strings in memory, and what a handed slice of strings or a handed cast is. -/
import Derived.Test.YtpjmdilpldaapaaDoorGi
import Derived.Test.YtpjmdilpldaapaaDoorCplain
import Derived.Test.YtpjmdilpldaapaaDoorShl
namespace Go.Proofs.YtpjmdilpldaapaaDoor
open Go.ChangeShapes Go.WideShapes Go.Deep Go.Joins Go.RowKit

/-- A slice of strings, in a block of which P holds. -/
def RepN (w : World) (P : Nat → Prop) (l : List ByteArray) (A : Option Addr) (cap : Nat) : Prop :=
  l.length ≤ cap ∧ cap ≤ maxLen ∧ (∀ x ∈ l, x.size ≤ maxLen) ∧ (l = [] ∨ ∃ b off, A = some ⟨b, off, none⟩ ∧ P b ∧ ∀ j (h : j < l.length), w.cell? ⟨b, off + j, none⟩ = some (.string l[j]))
theorem RepN.mono {w w' : World} {P P' : Nat → Prop} (hP : ∀ b, P b → P' b) (hc : ∀ p : Addr, P p.block → w'.cell? p = w.cell? p) {l : List ByteArray} {A : Option Addr} {cap : Nat} (h : RepN w P l A cap) : RepN w' P' l A cap := by
  obtain ⟨h1, h2, h3, h4⟩ := h
  refine ⟨h1, h2, h3, ?_⟩
  rcases h4 with h4 | ⟨b, off, hA, hb, hl⟩
  · exact .inl h4
  · exact .inr ⟨b, off, hA, hP b hb, fun j hj => by rw [hc _ hb]; exact hl j hj⟩
theorem RepN.below {w w' : World} {B : Nat} {l : List ByteArray} {A : Option Addr} {cap : Nat} (h : RepN w (fun b => b < B) l A cap) (hb : Below B w w') : RepN w' (fun b => b < B) l A cap :=
  RepN.mono (fun _ h => h) (fun _ hp => hb.cell hp) h
theorem RepN.go {w w' : World} {B B' : Nat} {l : List ByteArray} {A : Option Addr} {cap : Nat} (h : RepN w (fun b => b < B) l A cap) (hb : Below B w w') (hB : B ≤ B') : RepN w' (fun b => b < B') l A cap :=
  RepN.mono (fun _ h => Nat.lt_of_lt_of_le h hB) (fun _ hp => hb.cell hp) h
theorem RepN.nil {w : World} {P : Nat → Prop} : RepN w P [] none 0 := ⟨Nat.le_refl _, Nat.zero_le _, by simp, .inl rfl⟩
/-- .. a part of it, from its head on -/
theorem RepN.take {w : World} {P : Nat → Prop} {l : List ByteArray} {A : Option Addr} {cap : Nat} (h : RepN w P l A cap) (k : Nat) (hk : k ≤ l.length) : RepN w P (l.take k) A cap := by
  obtain ⟨h1, h2, h3, h4⟩ := h
  refine ⟨by rw [List.length_take]; omega, h2, fun x hx => h3 x (List.mem_of_mem_take hx), ?_⟩
  rcases h4 with h4 | ⟨b, off, hA, hb, hl⟩
  · left; rw [h4]; simp
  · exact .inr ⟨b, off, hA, hb, fun j hj => by rw [List.length_take] at hj; rw [List.getElem_take]; exact hl j (by omega)⟩

section
variable {H : Type} {enc : TypeId × Value → H} {w : World} {base : Nat} {spare : Nat → Bool} {held : Bool}
theorem cellsN : Tryd.prog.cellsOf 22 = 1 := by kernel_rfl
theorem cellsCast : Tryd.prog.cellsOf 24 = 2 := by kernel_rfl
theorem fieldsCast : ∃ f0 f1 : Field, Tryd.prog.underlying 24 = some (.struct #[f0, f1]) ∧ (f0.type = 22 ∧ f0.offset = 0) ∧ (f1.type = 22 ∧ f1.offset = 1) :=
  ⟨_, _, Tryd.underlying24, ⟨rfl, rfl⟩, ⟨rfl, rfl⟩⟩
set_option maxRecDepth 100000 in
theorem open_strs (n : Nat) (cs : List Value) (x : DataW H × List MemPlace) (h : DataW.trod enc Tryd.prog w base spare held n 22 cs = some x) :
    ∃ (l : List ByteArray) (A : Option Addr) (cap : Nat), cs = [.slice A l.length cap] ∧ RepN w (fun b => b < w.heap.size) l A cap := by
  obtain ⟨d, p⟩ := x
  rcases open_slice1 Tryd.underlying22 cellsStr h with ⟨hcs, -⟩ | ⟨a, len, cap, m, j, V, D, Pl, hcs, -, hl, hm, hmm, -, hi⟩
  · exact ⟨[], none, 0, hcs, RepN.nil⟩
  · have step : ∀ i, i < len → ∃ s : ByteArray, w.cell? (a.add i) = some (.string s) ∧ s.size ≤ maxLen := fun i hlt => by
      obtain ⟨hc, ht⟩ := hi i (by rw [hmm]; split <;> omega)
      obtain ⟨s, hs, -, hsz⟩ := DataW.trod_string Tryd.underlying9 ht
      simp only [List.cons.injEq, and_true] at hs
      exact ⟨s, by rw [hc, hs], hsz⟩
    obtain ⟨f, hf⟩ := choose_lt step
    refine ⟨(List.range len).map f, some a, cap, by simpa using hcs, by simpa using hl, hm, ?_, ?_⟩
    · intro x hx
      obtain ⟨i, hi, rfl⟩ := List.mem_map.1 hx
      exact (hf i (List.mem_range.1 hi)).2
    by_cases h0 : len = 0
    · left; subst h0; rfl
    right
    have h00 := (hf 0 (by omega)).1
    have hs := World.cell?_spot h00
    have hb := World.block_lt h00
    obtain ⟨b, off, sp⟩ := a
    simp only [Addr.add, if_true] at hs hb
    subst hs
    refine ⟨b, off, rfl, hb, fun i hlt => ?_⟩
    have := (hf i (by simpa using hlt)).1
    rw [show (⟨b, off, none⟩ : Addr).add i = ⟨b, off + i, none⟩ by unfold Addr.add; split <;> simp_all] at this
    simpa using this
/-- the value of a cast -/
def castV (ags bad : List ByteArray) (Aa : Option Addr) (ca : Nat) (Ab : Option Addr) (cb : Nat) : Value := .agg #[.slice Aa ags.length ca, .slice Ab bad.length cb]
set_option maxRecDepth 100000 in
/-- A handed cast. -/
theorem open_cast {v : Value} {d : DataW H} {p : List MemPlace} {r : Reach} {b0 : Nat} (hv : Value.okWide Tryd.prog w r b0 24 v) (h : DataW.Trod enc Tryd.prog w base spare held 24 v d p) :
    ∃ (ags bad : List ByteArray) (Aa : Option Addr) (ca : Nat) (Ab : Option Addr) (cb : Nat), v = castV ags bad Aa ca Ab cb ∧ RepN w (fun b => b < w.heap.size) ags Aa ca ∧ RepN w (fun b => b < w.heap.size) bad Ab cb := by
  obtain ⟨f0, f1, hu, ⟨t0, o0⟩, ⟨t1, o1⟩⟩ := fieldsCast
  obtain ⟨cs, rfl, -⟩ := okWide_struct hu hv
  obtain ⟨n, hn⟩ := h
  obtain ⟨xs, m, -, -, hcl, hxl, hf⟩ := DataW.trod_struct hu hn
  rw [cellsCast] at hcl
  simp only [List.size_toArray, List.length_cons, List.length_nil] at hxl
  obtain ⟨cl⟩ := cs
  simp only [Value.cells] at hcl hf
  match cl, hcl, xs, hxl with
  | [c0, c1], _, [x0, x1], _ =>
    have g0 := hf 0 f0 rfl
    have g1 := hf 1 f1 rfl
    rw [t0, o0, cellsN] at g0
    rw [t1, o1, cellsN] at g1
    obtain ⟨l, A, c, e0, r0⟩ := open_strs m _ _ g0
    obtain ⟨l', A', c', e1, r1⟩ := open_strs m _ _ g1
    simp only [List.drop_zero, List.drop_succ_cons, List.take_succ_cons, List.take_zero, List.cons.injEq, and_true] at e0 e1
    subst e0 e1
    exact ⟨l, l', A, c, A', c', rfl, r0, r1⟩
end
theorem RepN.cells {w : World} {P : Nat → Prop} {l : List ByteArray} {A : Option Addr} {cap : Nat} (h : RepN w P l A cap) (hne : l ≠ []) :
    ∃ b off, A = some ⟨b, off, none⟩ ∧ P b ∧ ∀ j (h : j < l.length), w.cell? ⟨b, off + j, none⟩ = some (.string l[j]) := by
  rcases h.2.2.2 with h | h
  · exact absurd h hne
  · exact h
theorem getD_get (l : List ByteArray) (j : Nat) (h : j < l.length) : l.getD j ByteArray.empty = l[j] := by simp [List.getD, h]
theorem containsN (l : List ByteArray) (A : Option Addr) (cap : Nat) (x : ByteArray) (w : World) {P : Nat → Prop} (h : RepN w P l A cap) :
    Calls Tryd.prog 43 #[.slice A l.length cap, .string x] w fun e w' => e = .returned (.bool (hasS l x)) ∧ w' = w := by
  by_cases hne : l = []
  · subst hne
    exact Tryd.slices_Contains_string_empty A cap x w
  · obtain ⟨b, off, rfl, -, hc⟩ := h.cells hne
    have hm := h.2.1
    have hl := h.1
    unfold maxLen at hm
    have := Tryd.slices_Contains_string b off l.length cap l x w (Nat.le_refl _) (by omega) (fun j hj => by rw [getD_get l j hj]; exact hc j hj)
    rw [List.take_length] at this
    exact this
theorem indexN (l : List ByteArray) (A : Option Addr) (cap : Nat) (x : ByteArray) (w : World) {P : Nat → Prop} (h : RepN w P l A cap) :
    Calls Tryd.prog 63 #[.slice A l.length cap, .string x] w fun e w' => e = .returned (.int .i64 (posS l x)) ∧ w' = w := by
  by_cases hne : l = []
  · subst hne
    exact Tryd.slices_Index_string_empty A cap x w
  · obtain ⟨b, off, rfl, -, hc⟩ := h.cells hne
    have hm := h.2.1
    have hl := h.1
    unfold maxLen at hm
    have := Tryd.slices_Index_string b off l.length cap l x w (Nat.le_refl _) (by omega) (fun j hj => by rw [getD_get l j hj]; exact hc j hj)
    rw [List.take_length] at this
    exact this
/-- strings.Contains of "#" -/
theorem hash_index : ∀ l : List UInt8, decide (0 ≤ Lib.indexByte l 35) = l.any (· == 35)
  | [] => rfl
  | b :: l => by
    have ih := hash_index l
    have hg := Lib.indexByte_ge l 35
    rw [Lib.indexByte, List.any_cons, ← ih]
    by_cases hb : (b == 35) = true
    · rw [if_pos hb, hb]; rfl
    · rw [if_neg hb, Bool.eq_false_iff.2 hb, Bool.false_or]
      by_cases h1 : (Lib.indexByte l 35 == -1) = true
      · rw [if_pos h1]
        rw [beq_iff_eq] at h1
        rw [h1]
      · rw [if_neg h1]
        have h2 : Lib.indexByte l 35 ≠ -1 := fun e => h1 (by rw [e]; rfl)
        rw [decide_eq_true (by omega), decide_eq_true (by omega)]
theorem hashN (x : ByteArray) (w : World) : Calls Tryd.prog 62 #[.string x, .string ⟨#[35]⟩] w fun e w' => e = .returned (.bool (hashB x)) ∧ w' = w := by
  have := Tryd.strings_Contains_one x 35 w
  rw [hash_index] at this
  exact this
end Go.Proofs.YtpjmdilpldaapaaDoor
