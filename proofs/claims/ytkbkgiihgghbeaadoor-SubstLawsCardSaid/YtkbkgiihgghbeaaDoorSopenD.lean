/- What handed bytes and drafts are. -/
import Derived.Test.YtkbkgiihgghbeaaDoorSgrown
import Derived.Test.YtkbkgiihgghbeaaDoorSopen
namespace Go.Proofs.YtkbkgiihgghbeaaDoor
open Go.ChangeShapes Go.WideShapes Go.Deep Go.Joins Go.RowKit

theorem cellsU : Tryd.prog.cellsOf 5 = 1 := by kernel_rfl
theorem cellsUs : Tryd.prog.cellsOf 36 = 1 := by kernel_rfl
theorem fieldsD : ∃ f0 f1 f2 f3 : Field, Tryd.prog.underlying 38 = some (.struct #[f0, f1, f2, f3]) ∧ (f0.type = 36 ∧ f0.offset = 0) ∧ (f1.type = 36 ∧ f1.offset = 1) ∧
    (f2.type = 36 ∧ f2.offset = 2) ∧ (f3.type = 5 ∧ f3.offset = 3) := ⟨_, _, _, _, Tryd.underlying38, ⟨rfl, rfl⟩, ⟨rfl, rfl⟩, ⟨rfl, rfl⟩, ⟨rfl, rfl⟩⟩
/-- a draft: the bytes of three terms, and a number -/
abbrev Dr := List Nat × List Nat × List Nat × Nat
abbrev A3 := Option Addr × Option Addr × Option Addr
abbrev C3 := Nat × Nat × Nat
def dval (d : Dr) (A : A3) (c : C3) : Value := .agg #[.slice A.1 d.1.length c.1, .slice A.2.1 d.2.1.length c.2.1, .slice A.2.2 d.2.2.1.length c.2.2, .int .u8 d.2.2.2]
structure RepD (w : World) (B : Nat) (d : Dr) (A : A3) (c : C3) : Prop where
  x : RepU w (fun b => b < B) d.1 A.1 c.1
  y : RepU w (fun b => b < B) d.2.1 A.2.1 c.2.1
  z : RepU w (fun b => b < B) d.2.2.1 A.2.2 c.2.2
  n : d.2.2.2 < 256

section
variable {H : Type} {enc : TypeId × Value → H} {w : World} {base : Nat} {spare : Nat → Bool} {held : Bool}
theorem open_byte {n : Nat} {c : Value} {x : DataW H × List MemPlace} (h : DataW.trod enc Tryd.prog w base spare held n 5 [c] = some x) : ∃ z : Nat, c = .int .u8 z ∧ z < 256 := by
  obtain ⟨z, hz, -, hwf⟩ := DataW.trod_int Tryd.underlying5 h
  simp only [List.cons.injEq, and_true] at hz
  have hr : 0 ≤ z ∧ z < 256 := by
    have e1 : IntKind.u8.min = 0 := by rfl
    have e2 : IntKind.u8.max = 255 := by rfl
    simp [Lit.wf, e1, e2] at hwf
    omega
  exact ⟨z.toNat, by rw [hz]; congr 1; omega, by omega⟩
set_option maxRecDepth 100000 in
theorem open_bytes {n : Nat} {cs : List Value} {x : DataW H × List MemPlace} (h : DataW.trod enc Tryd.prog w base spare held n 36 cs = some x) :
    ∃ (l : List Nat) (A : Option Addr) (cap : Nat), cs = [.slice A l.length cap] ∧ RepU w (fun b => b < w.heap.size) l A cap := by
  rcases open_slice1 Tryd.underlying36 cellsU h with ⟨hcs, -⟩ | ⟨a, len', cap', m, j, V, D, Pl, hcs, -, hl, hm, hmm, -, hi⟩
  · exact ⟨[], none, 0, hcs, Nat.zero_le _, Nat.zero_le _, fun x hx => by simp at hx, .inl rfl⟩
  · have step : ∀ i, i < len' → ∃ z : Nat, w.cell? (a.add i) = some (.int .u8 z) ∧ z < 256 := fun i hlt => by
      obtain ⟨hc, ht⟩ := hi i (by rw [hmm]; split <;> omega)
      obtain ⟨z, hz, hb⟩ := open_byte ht
      exact ⟨z, by rw [hc, hz], hb⟩
    obtain ⟨f, hf⟩ := choose_lt step
    refine ⟨(List.range len').map f, some a, cap', by rw [hcs]; simp, by simpa using hl, hm, fun x hx => ?_, ?_⟩
    · obtain ⟨i, hi, rfl⟩ := List.mem_map.1 hx
      exact (hf i (by simpa using hi)).2
    by_cases h0 : len' = 0
    · left; subst h0; rfl
    right
    have h00 := (hf 0 (by omega)).1
    have hs := World.cell?_spot h00
    have hb := World.block_lt h00
    obtain ⟨b, off, sp⟩ := a
    simp only [Addr.add, if_true] at hs hb
    subst hs
    refine ⟨b, off, rfl, hb, fun i hlt => ?_⟩
    have := (hf i (by simpa using hlt)).1
    rw [show (⟨b, off, none⟩ : Addr).add i = ⟨b, off + i, none⟩ by unfold Addr.add; split <;> simp_all] at this
    simpa using this
set_option maxRecDepth 100000 in
theorem open_byteS {v : Value} {d : DataW H} {p : List MemPlace} {r : Reach} {b0 : Nat} (hv : Value.okWide Tryd.prog w r b0 36 v) (h : DataW.Trod enc Tryd.prog w base spare held 36 v d p) :
    ∃ (l : List Nat) (A : Option Addr) (cap : Nat), v = .slice A l.length cap ∧ RepU w (fun b => b < w.heap.size) l A cap := by
  obtain ⟨A, len, cap, rfl⟩ := okWide_slice Tryd.underlying36 hv
  obtain ⟨n, hn⟩ := h
  obtain ⟨l, A', c', he, hr⟩ := open_bytes hn
  simp [Value.cells] at he
  obtain ⟨rfl, rfl, rfl⟩ := he
  exact ⟨l, A, cap, rfl, hr⟩
set_option maxRecDepth 100000 in
theorem open_draft {v : Value} {d : DataW H} {p : List MemPlace} {r : Reach} {b0 : Nat} (hv : Value.okWide Tryd.prog w r b0 38 v) (h : DataW.Trod enc Tryd.prog w base spare held 38 v d p) :
    ∃ (t : Dr) (A : A3) (c : C3), v = dval t A c ∧ RepD w w.heap.size t A c := by
  obtain ⟨f0, f1, f2, f3, hu, ⟨t0, o0⟩, ⟨t1, o1⟩, ⟨t2, o2⟩, ⟨t3, o3⟩⟩ := fieldsD
  obtain ⟨cs, rfl, hsz⟩ := okWide_struct hu hv
  obtain ⟨n, hn⟩ := h
  obtain ⟨xs, m, rfl, -, hcl, hxl, hf⟩ := DataW.trod_struct hu hn
  obtain ⟨l⟩ := cs
  have e4 : Tryd.prog.cellsOf 38 = 4 := by kernel_rfl
  rw [e4] at hcl
  simp only [Value.cells] at hcl hf
  simp only [List.size_toArray, List.length_cons, List.length_nil] at hxl
  match l, hcl, xs, hxl with
  | [c0, c1, c2, c3], _, [x0, x1, x2, x3], _ =>
    have g0 := hf 0 f0 rfl
    have g1 := hf 1 f1 rfl
    have g2 := hf 2 f2 rfl
    have g3 := hf 3 f3 rfl
    rw [t0, o0, cellsUs] at g0
    rw [t1, o1, cellsUs] at g1
    rw [t2, o2, cellsUs] at g2
    rw [t3, o3, cellsU] at g3
    obtain ⟨lx, Ax, cx, ex, rx⟩ := open_bytes g0
    obtain ⟨ly, Ay, cy, ey, ry⟩ := open_bytes g1
    obtain ⟨lz, Az, cz, ez, rz⟩ := open_bytes g2
    obtain ⟨k, ek, hk⟩ := open_byte g3
    simp only [List.drop_zero, List.drop_succ_cons, List.take_succ_cons, List.take_zero, List.cons.injEq, and_true] at ex ey ez
    subst ex ey ez ek
    exact ⟨(lx, ly, lz, k), (Ax, Ay, Az), (cx, cy, cz), rfl, rx, ry, rz, hk⟩
end
end Go.Proofs.YtkbkgiihgghbeaaDoor
