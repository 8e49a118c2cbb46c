/- Uavoid (joined by shake.py). -/
import Derived.Test.YtpjmdilpldaapaaGreatDoorJ14
namespace Go.Proofs.YtpjmdilpldaapaaGreatDoor
open Go.RowKit Go.Sort
theorem qf8 {W : World} {B : Nat} {a b c d x y z u : Value} {T : TypeId} (h : W.heap[B]? = some (.cells #[a, b, c, d] T (0, 0))) :
  ((((W.setCell ⟨B, 0, none⟩ x).setCell ⟨B, 1, none⟩ y).setCell ⟨B, 2, none⟩ z).setCell ⟨B, 3, none⟩ u).heap[B]? = some (.cells #[x, y, z, u] T (0, 0)) := by
 simp [World.setCell, Array.getElem?_modify, h]
theorem qdt {W : World} {B : Nat} {x y z u : Value} {q : Addr} (hq : q.block ≠ B) :
  ((((W.setCell ⟨B, 0, none⟩ x).setCell ⟨B, 1, none⟩ y).setCell ⟨B, 2, none⟩ z).setCell ⟨B, 3, none⟩ u).cell? q = W.cell? q := by
 have hne : ∀ o, (⟨B, o, none⟩ : Addr) ≠ q := fun o e => hq (by rw [← e]);rw [World.cell?_setCell_other _ _ _ _ (hne _), World.cell?_setCell_other _ _ _ _ (hne _), World.cell?_setCell_other _ _ _ _ (hne _), World.cell?_setCell_other _ _ _ _ (hne _)]
theorem qe2 {w : World} {bx b off : Nat} {k : Int} {T : TypeId} (hz : w.heap[bx]? = some (.cells #[.int .i64 0, .string ⟨#[]⟩, .int .i64 0, .slice none 0 0] T (0, 0))) (h : w.cell? ⟨b, off, none⟩ = some (.int .i64 k)) (hk : k ≠ 0) : b ≠ bx := by
 rintro rfl;unfold World.cell? at h;rw [hz] at h
 match off with
 | 0 => simp at h; omega
 | 1 => simp at h
 | 2 => simp at h; omega
 | 3 => simp at h
 | n + 4 => simp at h
theorem qdn {t : Tm} (h : t.check = 0) : t.kind ≠ 0 := by
 obtain ⟨k, n, s, l⟩ := t;rw [Tm.check] at h;show k ≠ 0
 split at h
 ·omega
 ·split at h
  ·omega
  ·omega
theorem qgb {t : Tm} {r : List Tm} (h : Tm.checks (t :: r) = 0) : t.check = 0 ∧ Tm.checks r = 0 := by
 rw [Tm.checks] at h
 split at h
 ·rename_i g; exact absurd h g
 ·rename_i g; exact ⟨Classical.byContradiction g, h⟩
mutual
theorem qf5 {w : World} {P : Nat → Prop} {bx : Nat} {T : TypeId} (hz : w.heap[bx]? = some (.cells #[.int .i64 0, .string ⟨#[]⟩, .int .i64 0, .slice none 0 0] T (0, 0))) :
  ∀ (t : Tm) (A : Option Addr) (c : Nat), t.check = 0 → RepP w P t A c → RepP w (fun b => P b ∧ b ≠ bx) t A c
 | .mk k n s l, A, c, hc, h => by
  rw [qbf] at h ⊢;obtain ⟨h1, h2, h3, h4⟩ := h;refine ⟨h1, h2, h3, ?_⟩;rcases h4 with h4 | ⟨b, off, e, hb, hl⟩
  ·exact .inl h4
  ·by_cases h0 : l = []
   ·exact .inl h0
   ·have hck : Tm.checks l = 0 := by
     by_cases hk : k = 1 ∨ k = 2
     ·rw [Tm.check, if_pos hk] at hc
      split at hc
      ·omega
      ·rename_i g; exact absurd (Classical.byContradiction fun e => g (.inr (.inr e))) h0
     ·rw [Tm.check, if_neg hk] at hc
      split at hc
      ·split at hc
       ·omega
       ·split at hc
        ·omega
        ·split at hc
         ·omega
         ·exact hc
      ·omega
    refine .inr ⟨b, off, e, ⟨hb, ?_⟩, qdy hz l b off hck hl⟩
    cases l with
    | nil => exact absurd rfl h0
    | cons t r =>
     rw [qal] at hl;obtain ⟨⟨_, _, g0, _⟩, _⟩ := hl;exact qe2 hz g0 (qdn (qgb hck).1)
theorem qdy {w : World} {P : Nat → Prop} {bx : Nat} {T : TypeId} (hz : w.heap[bx]? = some (.cells #[.int .i64 0, .string ⟨#[]⟩, .int .i64 0, .slice none 0 0] T (0, 0))) :
  ∀ (l : List Tm) (b off : Nat), Tm.checks l = 0 → qal w P l b off → qal w (fun b => P b ∧ b ≠ bx) l b off
 | [], _, _, _, _ => by rw [qal]; trivial
 | t :: r, b, off, hc, h => by
  obtain ⟨c1, c2⟩ := qgb hc;rw [qal] at h ⊢;obtain ⟨⟨A, c, g0, g1, g2, g3, g4⟩, hr⟩ := h;exact ⟨⟨A, c, g0, g1, g2, g3, qf5 hz t A c c1 g4⟩, qdy hz r b (off + 4) c2 hr⟩
end
theorem qgq : ∀ {l : List Bd}, (∀ b ∈ l, b.1.check = 0 ∧ b.2.check = 0) → Tm.checks (flat l) = 0
 | [], _ => rfl
 | b :: r, h => by
  obtain ⟨h1, h2⟩ := h b (List.mem_cons_self ..);rw [flat, Tm.checks, if_neg (by simpa using h1), Tm.checks, if_neg (by simpa using h2)];exact qgq fun c hc => h c (List.mem_cons_of_mem _ hc)
theorem qlx {w : World} {P : Nat → Prop} {bx : Nat} {T : TypeId} (hz : w.heap[bx]? = some (.cells #[.int .i64 0, .string ⟨#[]⟩, .int .i64 0, .slice none 0 0] T (0, 0))) {l : List Bd} (hl : ∀ b ∈ l, b.1.check = 0 ∧ b.2.check = 0) {A : Option Addr} {c : Nat}
  (h : RepB w P l A c) : RepB w (fun b => P b ∧ b ≠ bx) l A c := by
 obtain ⟨h1, h2, h3⟩ := h;refine ⟨h1, h2, ?_⟩;rcases h3 with h3 | ⟨b, off, e, hb, hlp⟩
 ·exact .inl h3
 ·cases l with
  | nil => exact .inl rfl
  | cons x r =>
   have hf := qgq hl;refine .inr ⟨b, off, e, ⟨hb, ?_⟩, qdy hz _ b off hf hlp⟩;rw [flat, qal] at hlp;obtain ⟨⟨_, _, g0, _⟩, _⟩ := hlp;exact qe2 hz g0 (qdn (hl x (List.mem_cons_self ..)).1)
def Fact.chk (bx : Nat) : Fact → Prop
 | .box B t _ _ => B ≠ bx ∧ t.check = 0
 | .term t _ _ => t.check = 0
 | .terms l _ _ => Tm.checks l = 0
 | .binds l _ _ => ∀ b ∈ l, b.1.check = 0 ∧ b.2.check = 0
def qe1 (bx : Nat) : List Fact → Prop
 | [] => True
 | f :: r => f.chk bx ∧ qe1 bx r
section
variable {V : World} {bx : Nat} {T : TypeId} {x y z u : Value}
theorem qd9 : ((((V.setCell ⟨bx, 0, none⟩ x).setCell ⟨bx, 1, none⟩ y).setCell ⟨bx, 2, none⟩ z).setCell ⟨bx, 3, none⟩ u).heap.size = V.heap.size := by simp [World.setCell]
theorem Fact.put4 (hz : V.heap[bx]? = some (.cells #[.int .i64 0, .string ⟨#[]⟩, .int .i64 0, .slice none 0 0] T (0, 0))) :
  ∀ f : Fact, f.chk bx → f.holds V → f.holds ((((V.setCell ⟨bx, 0, none⟩ x).setCell ⟨bx, 1, none⟩ y).setCell ⟨bx, 2, none⟩ z).setCell ⟨bx, 3, none⟩ u)
 | .box B t A c, hc, h => by
  refine ⟨?_, ?_⟩
  ·iterate 4 rw [Below.heap_setCell _ _ _ _ hc.1]
   exact h.1
  ·exact RepP.mono (fun b ⟨h, _⟩ => by rw [qd9]; exact h) (fun q ⟨_, h⟩ => qdt h) _ _ _ (qf5 hz t A c hc.2 h.2)
 | .term t A c, hc, h => RepP.mono (fun b ⟨h, _⟩ => by rw [qd9]; exact h) (fun q ⟨_, h⟩ => qdt h) _ _ _ (qf5 hz t A c hc h)
 | .terms l A c, hc, h => by
  obtain ⟨h1, h2, h3⟩ := h;refine ⟨h1, h2, ?_⟩;rcases h3 with h3 | ⟨b, off, e, hb, hl⟩
  ·exact .inl h3
  ·cases l with
   | nil => exact .inl rfl
   | cons t r =>
    have hlp := hl;rw [qal] at hlp;obtain ⟨⟨_, _, g0, _⟩, _⟩ := hlp;exact .inr ⟨b, off, e, by rw [qd9]; exact hb, qal.mono (fun b ⟨h, _⟩ => by rw [qd9]; exact h) (fun q ⟨_, h⟩ => qdt h) _ _ _ ⟨hb, qe2 hz g0 (qdn (qgb hc).1)⟩ (qdy hz _ b off hc hl)⟩
 | .binds l A c, hc, h => RepB.mono (fun b ⟨h, _⟩ => by rw [qd9]; exact h) (fun q ⟨_, h⟩ => qdt h) (qlx hz hc h)
theorem qab.put4 {w : World} (hz : V.heap[bx]? = some (.cells #[.int .i64 0, .string ⟨#[]⟩, .int .i64 0, .slice none 0 0] T (0, 0))) (hb : w.heap.size ≤ bx) : ∀ {fs : List Fact}, qe1 bx fs → qab w fs V → qab w fs ((((V.setCell ⟨bx, 0, none⟩ x).setCell ⟨bx, 1, none⟩ y).setCell ⟨bx, 2, none⟩ z).setCell ⟨bx, 3, none⟩ u)
 | [], _, h => by
  iterate 4 refine Below.setCell ?_ (by exact hb) _
  exact h
 | f :: _, hc, h => ⟨f.put4 hz hc.1 h.1, qab.put4 hz hb hc.2 h.2⟩
end
theorem qab.stored {w V : World} {bx : Nat} {t : Tm} {A : Option Addr} {c : Nat} (hz : V.heap[bx]? = some (.cells #[.int .i64 0, .string ⟨#[]⟩, .int .i64 0, .slice none 0 0] 24 (0, 0))) (hb : w.heap.size ≤ bx) {fs : List Fact} (hc : qe1 bx fs) (h : qab w fs V) (ht : t.check = 0) (hr : RepT V V.heap.size t A c) :
  qab w (.box bx t A c :: fs) ((((V.setCell ⟨bx, 0, none⟩ (.int .i64 t.kind)).setCell ⟨bx, 1, none⟩ (.string t.name)).setCell ⟨bx, 2, none⟩ (.int .i64 t.sort)).setCell ⟨bx, 3, none⟩ (.slice A t.kids.length c)) :=
 ⟨⟨qf8 hz, Fact.put4 hz (.term t A c) ht hr⟩, qab.put4 hz hb hc h⟩
end Go.Proofs.YtpjmdilpldaapaaGreatDoor
