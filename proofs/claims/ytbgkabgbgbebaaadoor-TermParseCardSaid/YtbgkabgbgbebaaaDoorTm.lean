/- Terms as plain trees, and how a Go value of the type Term stands for one in memory. -/
import Derived.WalkKit
import Derived.Sort.Grow
import Derived.Deep.Draws
namespace Go.Proofs.YtbgkabgbgbebaaaDoor
open Go.RowKit

inductive Tm where
  | mk (kind : Int) (name : ByteArray) (sort : Int) (kids : List Tm)
  deriving Inhabited

namespace Tm
def kind : Tm → Int | .mk k _ _ _ => k
def name : Tm → ByteArray | .mk _ n _ _ => n
def sort : Tm → Int | .mk _ _ s _ => s
def kids : Tm → List Tm | .mk _ _ _ l => l
mutual
def size : Tm → Nat
  | .mk _ _ _ l => 1 + sizes l
def sizes : List Tm → Nat
  | [] => 0
  | t :: r => size t + sizes r
end
mutual
def depth : Tm → Nat
  | .mk _ _ _ l => 1 + depths l
def depths : List Tm → Nat
  | [] => 0
  | t :: r => max (depth t) (depths r)
end
/-- The Go value of a term whose kids lie at A. -/
def val (t : Tm) (A : Option Addr) (cap : Nat) : Value :=
  .agg #[.int .i64 t.kind, .string t.name, .int .i64 t.sort, .slice A t.kids.length cap]
end Tm

mutual
/-- The kids of a term lie at A, all in blocks of which P holds. -/
def RepP (w : World) (P : Nat → Prop) : Tm → Option Addr → Nat → Prop
  | .mk _ n _ l, A, cap => n.size ≤ maxLen ∧ l.length ≤ cap ∧ cap ≤ maxLen ∧ (l = [] ∨ ∃ b off, A = some ⟨b, off, none⟩ ∧ P b ∧ RepLP w P l b off)
def RepLP (w : World) (P : Nat → Prop) : List Tm → Nat → Nat → Prop
  | [], _, _ => True
  | t :: r, b, off => (∃ A cap, w.cell? ⟨b, off, none⟩ = some (.int .i64 t.kind) ∧ w.cell? ⟨b, off + 1, none⟩ = some (.string t.name) ∧
      w.cell? ⟨b, off + 2, none⟩ = some (.int .i64 t.sort) ∧ w.cell? ⟨b, off + 3, none⟩ = some (.slice A t.kids.length cap) ∧ RepP w P t A cap) ∧ RepLP w P r b (off + 4)
end
/-- A slice of terms. -/
def RepS (w : World) (P : Nat → Prop) (l : List Tm) (A : Option Addr) (cap : Nat) : Prop :=
  l.length ≤ cap ∧ cap ≤ maxLen ∧ (l = [] ∨ ∃ b off, A = some ⟨b, off, none⟩ ∧ P b ∧ RepLP w P l b off)
/-- .. all in blocks below B. -/
def RepT (w : World) (B : Nat) (t : Tm) (A : Option Addr) (cap : Nat) : Prop := RepP w (fun b => b < B) t A cap
def RepL (w : World) (B : Nat) (l : List Tm) (b off : Nat) : Prop := RepLP w (fun b => b < B) l b off
theorem RepP_mk {w : World} {P : Nat → Prop} {k s : Int} {n : ByteArray} {l : List Tm} {A : Option Addr} {cap : Nat} : RepP w P (.mk k n s l) A cap =
    (n.size ≤ maxLen ∧ l.length ≤ cap ∧ cap ≤ maxLen ∧ (l = [] ∨ ∃ b off, A = some ⟨b, off, none⟩ ∧ P b ∧ RepLP w P l b off)) := by rw [RepP]
theorem RepT_mk {w : World} {B : Nat} {k s : Int} {n : ByteArray} {l : List Tm} {A : Option Addr} {cap : Nat} : RepT w B (.mk k n s l) A cap =
    (n.size ≤ maxLen ∧ l.length ≤ cap ∧ cap ≤ maxLen ∧ (l = [] ∨ ∃ b off, A = some ⟨b, off, none⟩ ∧ b < B ∧ RepL w B l b off)) := by rw [RepT, RepP]; rfl

theorem RepLP.get {w : World} {P : Nat → Prop} : ∀ {l : List Tm} {b off : Nat}, RepLP w P l b off → ∀ i (h : i < l.length), ∃ A cap,
    w.cell? ⟨b, off + i * 4, none⟩ = some (.int .i64 l[i].kind) ∧ w.cell? ⟨b, off + i * 4 + 1, none⟩ = some (.string l[i].name) ∧
      w.cell? ⟨b, off + i * 4 + 2, none⟩ = some (.int .i64 l[i].sort) ∧ w.cell? ⟨b, off + i * 4 + 3, none⟩ = some (.slice A l[i].kids.length cap) ∧ RepP w P l[i] A cap
  | [], _, _, _, _, h => by simp at h
  | t :: r, b, off, h, i, hi => by
    rw [RepLP] at h
    obtain ⟨⟨A, cap, h0, h1, h2, h3, h4⟩, hr⟩ := h
    cases i with
    | zero => exact ⟨A, cap, by simpa using h0, by simpa using h1, by simpa using h2, by simpa using h3, h4⟩
    | succ i =>
      obtain ⟨A', cap', g⟩ := RepLP.get hr i (by simpa using hi)
      refine ⟨A', cap', ?_⟩
      have e : off + (i + 1) * 4 = off + 4 + i * 4 := by omega
      simpa [e] using g
theorem RepL.get {w : World} {B : Nat} {l : List Tm} {b off : Nat} (h : RepL w B l b off) (i : Nat) (hi : i < l.length) : ∃ A cap,
    w.cell? ⟨b, off + i * 4, none⟩ = some (.int .i64 l[i].kind) ∧ w.cell? ⟨b, off + i * 4 + 1, none⟩ = some (.string l[i].name) ∧
      w.cell? ⟨b, off + i * 4 + 2, none⟩ = some (.int .i64 l[i].sort) ∧ w.cell? ⟨b, off + i * 4 + 3, none⟩ = some (.slice A l[i].kids.length cap) ∧ RepT w B l[i] A cap := RepLP.get h i hi

mutual
theorem RepP.mono {w w' : World} {P P' : Nat → Prop} (hP : ∀ b, P b → P' b) (hc : ∀ p : Addr, P p.block → w'.cell? p = w.cell? p) : ∀ (t : Tm) (A : Option Addr) (cap : Nat), RepP w P t A cap → RepP w' P' t A cap
  | .mk _ n _ l, A, cap, h => by
    rw [RepP] at h ⊢
    obtain ⟨h1, h2, h3, h4⟩ := h
    refine ⟨h1, h2, h3, ?_⟩
    rcases h4 with h4 | ⟨b, off, hA, hb, hl⟩
    · exact Or.inl h4
    · exact Or.inr ⟨b, off, hA, hP b hb, RepLP.mono hP hc l b off hb hl⟩
theorem RepLP.mono {w w' : World} {P P' : Nat → Prop} (hP : ∀ b, P b → P' b) (hc : ∀ p : Addr, P p.block → w'.cell? p = w.cell? p) : ∀ (l : List Tm) (b off : Nat), P b → RepLP w P l b off → RepLP w' P' l b off
  | [], _, _, _, _ => by rw [RepLP]; trivial
  | t :: r, b, off, hb, h => by
    rw [RepLP] at h ⊢
    obtain ⟨⟨A, cap, h0, h1, h2, h3, h4⟩, hr⟩ := h
    exact ⟨⟨A, cap, by rw [hc _ hb]; exact h0, by rw [hc _ hb]; exact h1, by rw [hc _ hb]; exact h2, by rw [hc _ hb]; exact h3, RepP.mono hP hc t A cap h4⟩, RepLP.mono hP hc r b (off + 4) hb hr⟩
end
theorem RepS.mono {w w' : World} {P P' : Nat → Prop} (hP : ∀ b, P b → P' b) (hc : ∀ p : Addr, P p.block → w'.cell? p = w.cell? p) {l : List Tm} {A : Option Addr} {cap : Nat} (h : RepS w P l A cap) : RepS w' P' l A cap := by
  obtain ⟨h1, h2, h3⟩ := h
  refine ⟨h1, h2, ?_⟩
  rcases h3 with h3 | ⟨b, off, hA, hb, hl⟩
  · exact Or.inl h3
  · exact Or.inr ⟨b, off, hA, hP b hb, RepLP.mono hP hc l b off hb hl⟩
theorem RepT.below {w w' : World} {B : Nat} {t : Tm} {A : Option Addr} {cap : Nat} (h : RepT w B t A cap) (hb : Below B w w') : RepT w' B t A cap :=
  RepP.mono (fun _ h => h) (fun _ hp => hb.cell hp) t A cap h
theorem RepL.below {w w' : World} {B : Nat} {l : List Tm} {b off : Nat} (h : RepL w B l b off) (hb : Below B w w') (hB : b < B) : RepL w' B l b off :=
  RepLP.mono (fun _ h => h) (fun _ hp => hb.cell hp) l b off hB h
theorem RepT.go {w w' : World} {B B' : Nat} {t : Tm} {A : Option Addr} {cap : Nat} (h : RepT w B t A cap) (hb : Below B w w') (hB : B ≤ B') : RepT w' B' t A cap :=
  RepP.mono (fun _ h => Nat.lt_of_lt_of_le h hB) (fun _ hp => hb.cell hp) t A cap h
theorem RepL.go {w w' : World} {B B' : Nat} {l : List Tm} {b off : Nat} (h : RepL w B l b off) (hb : Below B w w') (hB : B ≤ B') (hbB : b < B) : RepL w' B' l b off :=
  RepLP.mono (fun _ h => Nat.lt_of_lt_of_le h hB) (fun _ hp => hb.cell hp) l b off hbB h
theorem RepP.toT {w w' : World} {P : Nat → Prop} {B : Nat} {t : Tm} {A : Option Addr} {cap : Nat} (h : RepP w P t A cap) (hP : ∀ b, P b → b < B) (hc : ∀ p : Addr, P p.block → w'.cell? p = w.cell? p) : RepT w' B t A cap :=
  RepP.mono hP hc t A cap h
/-- the four cells of a block that is known whole -/
theorem box_at {W : World} {B : Nat} {a b c d : Value} {T : TypeId} (h : W.heap[B]? = some (.cells #[a, b, c, d] T (0, 0))) :
    W.cell? ⟨B, 0, none⟩ = some a ∧ W.cell? ⟨B, 1, none⟩ = some b ∧ W.cell? ⟨B, 2, none⟩ = some c ∧ W.cell? ⟨B, 3, none⟩ = some d ∧ ∀ o, W.frozen? ⟨B, o, none⟩ = false := by
  refine ⟨?_, ?_, ?_, ?_, fun o => ?_⟩ <;> simp [World.cell?, World.frozen?, h]
theorem heap_set3 {W : World} {B : Nat} {a b c d u : Value} {T : TypeId} (h : W.heap[B]? = some (.cells #[a, b, c, d] T (0, 0))) :
    (W.setCell ⟨B, 3, none⟩ u).heap[B]? = some (.cells #[a, b, c, u] T (0, 0)) := by
  simp [World.setCell, Array.getElem?_modify, h]
theorem below1 {B : Nat} {w : World} (h : B ≤ w.heap.size) (o : Obj) : Below B w (w.alloc o) := (Below.refl _ _).alloc h o
/-- Below block B nothing has turned, and the draws have not gone back: for functions that only read and lay blocks of their own. -/
structure Lay (B : Nat) (w w' : World) : Prop where
  below : Below B w w'
  drawn : w.drawn ≤ w'.drawn
theorem Lay.refl (B : Nat) (w : World) : Lay B w w := ⟨Below.refl _ _, Nat.le_refl _⟩
theorem Lay.trans {B : Nat} {a b c : World} (h : Lay B a b) (k : Lay B b c) : Lay B a c := ⟨h.below.trans k.below, Nat.le_trans h.drawn k.drawn⟩
theorem Lay.mono {B B' : Nat} {w w' : World} (h : Lay B w w') (hB : B' ≤ B) : Lay B' w w' := ⟨h.below.mono hB, h.drawn⟩
theorem Lay.alloc {B : Nat} {a w : World} (h : Lay B a w) (hB : B ≤ w.heap.size) (o : Obj) : Lay B a (w.alloc o) := ⟨h.below.alloc hB o, h.drawn⟩
theorem Lay.setCell {B : Nat} {a w : World} (h : Lay B a w) {p : Addr} (hp : B ≤ p.block) (u : Value) : Lay B a (w.setCell p u) := ⟨h.below.setCell hp u, h.drawn⟩
theorem Lay.drew {B : Nat} {a w : World} (h : Lay B a w) : Lay B a w.drew := ⟨h.below.drew, Nat.le_trans h.drawn (Nat.le_succ _)⟩
theorem Lay.drewN {B : Nat} {a w : World} (h : Lay B a w) (n : Nat) : Lay B a (w.drewN n) := ⟨⟨h.below.os, h.below.tape, h.below.output, h.below.size, h.below.block⟩, Nat.le_trans h.drawn (Nat.le_add_right _ _)⟩
theorem Lay.size {B : Nat} {w w' : World} (h : Lay B w w') : w.heap.size ≤ w'.heap.size := h.below.size
/-- .. so the world behind is the world before, some draws on, with blocks laid behind it. -/
theorem Lay.grow {w w' : World} (h : Lay w.heap.size w w') : ∃ q os, w' = Sort.grow (w.drewN q) os := by
  refine ⟨w'.drawn - w.drawn, w'.heap.extract w.heap.size w'.heap.size, ?_⟩
  obtain ⟨⟨h1, h2, h3, h4, h5⟩, h6⟩ := h
  obtain ⟨hp, tp, dr, os, ou⟩ := w'
  simp only at h1 h2 h3 h4 h5 h6
  subst h1 h2 h3
  unfold Sort.grow World.drewN
  simp only [World.mk.injEq, true_and, and_true]
  refine ⟨?_, by omega⟩
  apply Array.ext_getElem?
  intro i
  rw [Array.getElem?_append]
  split
  · rename_i hi; exact h5 i hi
  · rename_i hi
    rw [Array.getElem?_extract]
    split
    · congr 1; omega
    · rw [Array.getElem?_eq_none]; omega
theorem Lay.of_grow {w : World} (q : Nat) (os : Array Obj) : Lay w.heap.size w (Sort.grow (w.drewN q) os) := by
  refine ⟨⟨rfl, rfl, rfl, ?_, fun k hk => ?_⟩, Nat.le_add_right _ _⟩
  · show w.heap.size ≤ (w.heap ++ os).size; simp
  · show (w.heap ++ os)[k]? = _; rw [Array.getElem?_append, if_pos hk]
theorem Tm.size_pos : ∀ t : Tm, 0 < t.size
  | .mk _ _ _ _ => by rw [Tm.size]; omega
theorem Tm.length_le_sizes : ∀ l : List Tm, l.length ≤ Tm.sizes l
  | [] => by simp
  | t :: r => by have := Tm.length_le_sizes r; have := t.size_pos; simp [Tm.sizes]; omega
theorem Tm.sizes_get : ∀ (l : List Tm) (i : Nat) (h : i < l.length), l[i].size ≤ Tm.sizes l
  | [], _, h => by simp at h
  | t :: r, 0, _ => by simp [Tm.sizes]
  | t :: r, i + 1, h => by have := Tm.sizes_get r i (by simpa using h); simp [Tm.sizes]; omega
theorem Tm.sizes_take_succ : ∀ (l : List Tm) (i : Nat) (h : i < l.length), Tm.sizes (l.take (i + 1)) = Tm.sizes (l.take i) + l[i].size
  | [], _, h => by simp at h
  | t :: r, 0, _ => by simp [Tm.sizes]
  | t :: r, i + 1, h => by have := Tm.sizes_take_succ r i (by simpa using h); simp [Tm.sizes] at this ⊢; omega
theorem Tm.sizes_take_le : ∀ (l : List Tm) (i : Nat), Tm.sizes (l.take i) ≤ Tm.sizes l
  | [], _ => by simp
  | t :: r, 0 => by simp [Tm.sizes]
  | t :: r, i + 1 => by have := Tm.sizes_take_le r i; simp [Tm.sizes]; omega
end Go.Proofs.YtbgkabgbgbebaaaDoor
