/- Umatr, Urgst, Umix5 (joined by shake.py). -/
import Derived.Test.YtpjmdilpldaapaaGreatDoorK12
import Derived.Test.YtpjmdilpldaapaaGreatDoorK16
import Derived.Test.YtpjmdilpldaapaaGreatDoorK18
import Derived.Test.YtpjmdilpldaapaaGreatDoorK20
namespace Go.Proofs.YtpjmdilpldaapaaGreatDoor
open Go.RowKit Go.Sort
def RMatched (base B : Nat) (r : List Bd × Bool) (own0 : Option Nat) (N : Nat) (w : World) (e : Ending) (w' : World) : Prop :=
 ∃ A c its, e = .returned (.tuple #[.slice A its.length c, .bool r.2]) ∧ its.map IB.bd = r.1 ∧ its.length ≤ N ∧ RowG 57 w' base (fun b => b < B) (.slice A its.length c) its ∧ Below base w w' ∧
  (∀ k, k < w.heap.size → own0 ≠ some k → w'.heap[k]? = w.heap[k]?) ∧ ∀ k, ownA A = some k → own0 = some k ∨ w.heap.size ≤ k
structure RAt (base B : Nat) (w : World) (own0 : Option Nat) (O : Option Addr) (oc : Nat) (its : List IB) (o1 o2 : Obj) (Z : World) : Prop where
 row : RowG 57 Z base (fun b => b < B) (.slice O its.length oc) its
 b1 : Z.heap[w.heap.size]? = some o1
 b2 : Z.heap[w.heap.size + 1]? = some o2
 bel : Below base w Z
 old : ∀ k, k < w.heap.size → own0 ≠ some k → Z.heap[k]? = w.heap[k]?
 own : ∀ k, ownA O = some k → own0 = some k ∨ w.heap.size + 2 ≤ k
section
variable {base B oc oc' : Nat} {w Z Z' : World} {own0 : Option Nat} {O O' : Option Addr} {its its' : List IB} {o1 o2 : Obj}
theorem RAt.lt (h : RAt base B w own0 O oc its o1 o2 Z) : w.heap.size + 2 ≤ Z.heap.size := (Array.getElem?_eq_some_iff.1 h.b2).1
theorem RAt.go (h : RAt base B w own0 O oc its o1 o2 Z) (hbw : base ≤ w.heap.size) (hb : Below Z.heap.size Z Z') : RAt base B w own0 O oc its o1 o2 Z' := by
 have hl := h.lt;exact ⟨h.row.below hb, (hb.block _ (by omega)).trans h.b1, (hb.block _ (by omega)).trans h.b2, h.bel.trans (hb.mono (by omega)), fun k hk hne => (hb.block k (by omega)).trans (h.old k hk hne), h.own⟩
theorem RAt.call (h : RAt base B w own0 O oc its o1 o2 Z) (ho0 : ∀ k, own0 = some k → k < w.heap.size) (hr : RowG 57 Z' base (fun b => b < B) (.slice O' its'.length oc') its') (hb : Below base Z Z') (ho : ∀ k, k < Z.heap.size → ownA O ≠ some k → Z'.heap[k]? = Z.heap[k]?) (hown : ∀ k, ownA O' = some k → ownA O = some k ∨ Z.heap.size ≤ k) :
  RAt base B w own0 O' oc' its' o1 o2 Z' := by
 have hl := h.lt;have n1 : ∀ k, w.heap.size ≤ k → k < w.heap.size + 2 → ownA O ≠ some k := fun k h1 h2 e => by
  rcases h.own k e with h3 | h3
  ·have := ho0 k h3; omega
  ·omega
 refine ⟨hr, (ho _ (by omega) (n1 _ (by omega) (by omega))).trans h.b1, (ho _ (by omega) (n1 _ (by omega) (by omega))).trans h.b2, h.bel.trans hb, fun k hk hne => (ho k (by omega) (fun e => ?_)).trans (h.old k hk hne), fun k e => ?_⟩
 ·rcases h.own k e with h3 | h3
  ·exact hne h3
  ·omega
 ·rcases hown k e with h3 | h3
  ·exact h.own k h3
  ·exact .inr (by omega)
theorem RAt.done (h : RAt base B w own0 O oc its o1 o2 Z) {r : List Bd × Bool} {N : Nat} (hr : its.map IB.bd = r.1) (hN : its.length ≤ N) : RMatched base B r own0 N w (.returned (.tuple #[.slice O its.length oc, .bool r.2])) Z :=
 ⟨O, oc, its, rfl, hr, hN, h.row, h.bel, h.old, fun k e => (h.own k e).imp id (fun h => by omega)⟩
end
structure MkV where
 L : List Tm
 A : Option Addr
 c : Nat
def qme (nn : MkV) (next : Nat) (p v : Value) : Obj := .cells #[.slice nn.A nn.L.length nn.c, .int .i64 next, p, v] 77 (0, 0)
def RVs (w : World) (mb : Nat) (nn : MkV) (N : List ByteArray) : Prop := RepS w (fun b => b ≤ mb) nn.L nn.A nn.c ∧ N = nn.L.map Tm.name ∧ mb < w.heap.size
theorem RVs.lt {w : World} {mb : Nat} {nn : MkV} {N : List ByteArray} (h : RVs w mb nn N) : mb < w.heap.size := h.2.2
theorem RVs.keep {w w' : World} {mb : Nat} {nn : MkV} {N : List ByteArray} (h : RVs w mb nn N) (hs : w.heap.size ≤ w'.heap.size) (hk : ∀ k, k ≤ mb → w'.heap[k]? = w.heap[k]?) : RVs w' mb nn N :=
 ⟨RepS.mono (fun _ h => h) (fun p hp => World.cell?_of_block (hk p.block hp)) h.1, h.2.1, by have := h.2.2; omega⟩
structure RGAt (gb mb : Nat) (nn : MkV) (B : Nat) (N : List ByteArray) (g : Gs) (PA : Option Addr) (Pc : Nat) (VA : Option Addr) (Vc : Nat) (its : List IB) (vts : List It) (w : World) : Prop where
 cell : w.heap[gb]? = some (qme nn g.next (.slice PA its.length Pc) (.slice VA vts.length Vc))
 set : RVs w mb nn N
 row : RowG 57 w (gb + 1) (fun b => b < B) (.slice PA its.length Pc) its
 vrow : RowT w (gb + 1) (fun _ => False) (.slice VA vts.length Vc) vts
 pairs : its.map IB.bd = g.pairs
 vars : vts.map (·.1) = g.vars
 leaf : ∀ x ∈ vts, x.1.kids = []
 apart : ∀ b, ownA PA = some b → ownA VA ≠ some b
section
variable {gb mb : Nat} {nn : MkV} {B : Nat} {N : List ByteArray} {g : Gs} {PA VA : Option Addr} {Pc Vc : Nat} {its : List IB} {vts : List It} {w w' : World}
theorem RGAt.lt (h : RGAt gb mb nn B N g PA Pc VA Vc its vts w) : gb < w.heap.size := (Array.getElem?_eq_some_iff.1 h.cell).1
theorem RGAt.own1 (h : RGAt gb mb nn B N g PA Pc VA Vc its vts w) : ∀ k, ownA PA = some k → gb < k ∧ k < w.heap.size := fun k e => h.row.lt k (by rw [qaq]; exact e)
theorem RGAt.own2 (h : RGAt gb mb nn B N g PA Pc VA Vc its vts w) : ∀ k, ownA VA = some k → gb < k ∧ k < w.heap.size := fun k e => h.vrow.lt k (by rw [qaq]; exact e)
theorem RGAt.keep (h : RGAt gb mb nn B N g PA Pc VA Vc its vts w) (hs : w.heap.size ≤ w'.heap.size) (hk : ∀ k, k < w.heap.size → (k < B ∨ k = gb ∨ k ≤ mb ∨ ownA PA = some k ∨ ownA VA = some k) → w'.heap[k]? = w.heap[k]?) : RGAt gb mb nn B N g PA Pc VA Vc its vts w' :=
 ⟨(hk gb h.lt (.inr (.inl rfl))).trans h.cell, h.set.keep hs (fun k hk2 => hk k (by have := h.set.lt; omega) (.inr (.inr (.inl hk2)))),
  h.row.keep hs fun b hb hor => hk b hb (hor.imp id fun e => .inr (.inr (.inl (by rw [qaq] at e; exact e)))),
  qbb h.vrow hs (fun k e => by rw [qaq] at e; exact hk k (h.own2 k e).2 (.inr (.inr (.inr (.inr e))))) (fun b hb => False.elim hb), h.pairs, h.vars, h.leaf, h.apart⟩
theorem RGAt.below (h : RGAt gb mb nn B N g PA Pc VA Vc its vts w) (hb : Below w.heap.size w w') : RGAt gb mb nn B N g PA Pc VA Vc its vts w' :=
 h.keep hb.size fun k hk _ => hb.block k hk
end
structure ROfAt (gb mb : Nat) (nn : MkV) (B : Nat) (N : List ByteArray) (g' : Gs) (r : Tm) (A : Option Addr) (c : Nat) (PA VA : Option Addr) (w : World) (PA' : Option Addr) (Pc' : Nat) (VA' : Option Addr) (Vc' : Nat) (its' : List IB) (vts' : List It) (w' : World) : Prop where
 gen : RGAt gb mb nn B N g' PA' Pc' VA' Vc' its' vts' w'
 rep : RepP w' (fun b => b < B ∨ (w.heap.size ≤ b ∧ b < w'.heap.size ∧ ownA PA' ≠ some b ∧ ownA VA' ≠ some b)) r A c
 bel : Below gb w w'
 old : ∀ k, k < w.heap.size → k ≠ gb → ownA PA ≠ some k → ownA VA ≠ some k → w'.heap[k]? = w.heap[k]?
 own1 : ∀ k, ownA PA' = some k → ownA PA = some k ∨ w.heap.size ≤ k
 own2 : ∀ k, ownA VA' = some k → ownA VA = some k ∨ w.heap.size ≤ k
 size : w.heap.size ≤ w'.heap.size
def ROfed (gb mb : Nat) (nn : MkV) (B : Nat) (N : List ByteArray) (q : Tm × Gs) (PA VA : Option Addr) (w : World) (e : Ending) (w' : World) : Prop :=
 ∃ A c PA' Pc' VA' Vc' its' vts', e = .returned (q.1.val A c) ∧ ROfAt gb mb nn B N q.2 q.1 A c PA VA w PA' Pc' VA' Vc' its' vts' w'
structure ROAt (gb mb : Nat) (nn : MkV) (B : Nat) (N : List ByteArray) (g : Gs) (PA0 VA0 : Option Addr) (w : World) (o1 o2 : Obj) (PA : Option Addr) (Pc : Nat) (VA : Option Addr) (Vc : Nat) (its : List IB) (vts : List It) (Z : World) : Prop where
 gen : RGAt gb mb nn B N g PA Pc VA Vc its vts Z
 b1 : Z.heap[w.heap.size]? = some o1
 b2 : Z.heap[w.heap.size + 1]? = some o2
 b3 : Z.heap[w.heap.size + 1 + 1]? = some (.cells #[.int .i64 0, .string ⟨#[]⟩, .int .i64 0, .slice none 0 0] 24 (0, 0))
 bel : Below gb w Z
 old : ∀ k, k < w.heap.size → k ≠ gb → ownA PA0 ≠ some k → ownA VA0 ≠ some k → Z.heap[k]? = w.heap[k]?
 own1 : ∀ k, ownA PA = some k → ownA PA0 = some k ∨ w.heap.size + 3 ≤ k
 own2 : ∀ k, ownA VA = some k → ownA VA0 = some k ∨ w.heap.size + 3 ≤ k
section
variable {gb mb : Nat} {nn : MkV} {B : Nat} {N : List ByteArray} {g : Gs} {PA0 VA0 PA VA : Option Addr} {Pc Vc : Nat} {its : List IB} {vts : List It} {w Z Z' : World} {o1 o2 : Obj}
theorem ROAt.lt (h : ROAt gb mb nn B N g PA0 VA0 w o1 o2 PA Pc VA Vc its vts Z) : w.heap.size + 3 ≤ Z.heap.size := (Array.getElem?_eq_some_iff.1 h.b3).1
theorem ROAt.go (h : ROAt gb mb nn B N g PA0 VA0 w o1 o2 PA Pc VA Vc its vts Z) (hb : Below Z.heap.size Z Z') : ROAt gb mb nn B N g PA0 VA0 w o1 o2 PA Pc VA Vc its vts Z' := by
 have hl := h.lt;exact ⟨h.gen.below hb, (hb.block _ (by omega)).trans h.b1, (hb.block _ (by omega)).trans h.b2, (hb.block _ (by omega)).trans h.b3, h.bel.trans (hb.mono (Nat.le_of_lt h.gen.lt)),
  fun k hk h1 h2 h3 => (hb.block k (by omega)).trans (h.old k hk h1 h2 h3), h.own1, h.own2⟩
theorem ROAt.give (h : ROAt gb mb nn B N g PA0 VA0 w o1 o2 PA Pc VA Vc its vts Z) (hB : B ≤ w.heap.size) (hg : gb < w.heap.size) (hmb : mb < gb) (hw1 : ∀ k, ownA PA0 = some k → k < w.heap.size) (hw2 : ∀ k, ownA VA0 = some k → k < w.heap.size) {r : Tm} {A : Option Addr} {c : Nat}
  (hr : RepP Z (fun b => b < B ∨ (w.heap.size + 3 ≤ b ∧ b < Z.heap.size ∧ ownA PA ≠ some b ∧ ownA VA ≠ some b)) r A c) :
  ROfAt gb mb nn B N g r A c PA0 VA0 w PA Pc VA Vc its vts ((((Z.setCell ⟨w.heap.size + 1 + 1, 0, none⟩ (.int .i64 r.kind)).setCell ⟨w.heap.size + 1 + 1, 1, none⟩ (.string r.name)).setCell ⟨w.heap.size + 1 + 1, 2, none⟩ (.int .i64 r.sort)).setCell ⟨w.heap.size + 1 + 1, 3, none⟩ (.slice A r.kids.length c)) := by
 have hl := h.lt;obtain ⟨Y, hY⟩ : ∃ Y, Y = (((Z.setCell ⟨w.heap.size + 1 + 1, 0, none⟩ (.int .i64 r.kind)).setCell ⟨w.heap.size + 1 + 1, 1, none⟩ (.string r.name)).setCell ⟨w.heap.size + 1 + 1, 2, none⟩ (.int .i64 r.sort)).setCell ⟨w.heap.size + 1 + 1, 3, none⟩ (.slice A r.kids.length c) := ⟨_, rfl⟩;have ho : ∀ k, k ≠ w.heap.size + 1 + 1 → Y.heap[k]? = Z.heap[k]? := fun k hk => by rw [hY]; iterate 4 rw [Below.heap_setCell _ _ _ _ hk]
 have hsz : Y.heap.size = Z.heap.size := by rw [hY]; simp [World.setCell]
 have hbel : Below gb w Y := by
  rw [hY]
  iterate 4 refine Below.setCell ?_ (by show gb ≤ w.heap.size + 1 + 1; omega) _
  exact h.bel
 rw [← hY];have n1 : ∀ k, ownA PA = some k → k ≠ w.heap.size + 1 + 1 := fun k e => by rcases h.own1 k e with h1 | h1; have := hw1 k h1; omega; omega
 have n2 : ∀ k, ownA VA = some k → k ≠ w.heap.size + 1 + 1 := fun k e => by rcases h.own2 k e with h1 | h1; have := hw2 k h1; omega; omega
 refine ⟨h.gen.keep (by omega) (fun k hk hor => ho k ?_), ?_, hbel, fun k hk h1 h2 h3 => (ho k (by omega)).trans (h.old k hk h1 h2 h3), fun k e => (h.own1 k e).imp id (fun h => by omega), fun k e => (h.own2 k e).imp id (fun h => by omega), by omega⟩
 ·rcases hor with h | h | h | h | h
  ·omega
  ·omega
  ·omega
  ·exact n1 k h
  ·exact n2 k h
 ·refine RepP.mono ?_ ?_ _ _ _ hr
  ·rintro b (h | ⟨h1, h2, h3, h4⟩)
   ·exact .inl h
   ·exact .inr ⟨by omega, by omega, h3, h4⟩
  ·intro p hp;exact World.cell?_of_block (ho p.block (by rcases hp with h | ⟨h1, -⟩ <;> omega))
end
section
variable {gb mb : Nat} {nn : MkV} {B : Nat} {N : List ByteArray} {g : Gs} {PA0 VA0 PA VA : Option Addr} {Pc Vc : Nat} {its : List IB} {vts : List It} {w Z Z' : World} {o1 o2 : Obj}
structure RGrown2 (gb B : Nat) (PA VA : Option Addr) (D : World) (PA' : Option Addr) (Pc' : Nat) (VA' : Option Addr) (Vc' : Nat) (its' : List IB) (vts' : List It) (W : World) : Prop where
 same : ∀ k, k < D.heap.size → ownA PA ≠ some k → ownA VA ≠ some k → W.heap[k]? = D.heap[k]?
 size : D.heap.size ≤ W.heap.size
 bel : Below gb D W
 row : RowG 57 W (gb + 1) (fun b => b < B) (.slice PA' its'.length Pc') its'
 vrow : RowT W (gb + 1) (fun _ => False) (.slice VA' vts'.length Vc') vts'
 own1 : ∀ k, ownA PA' = some k → ownA PA = some k ∨ D.heap.size ≤ k
 own2 : ∀ k, ownA VA' = some k → ownA VA = some k ∨ D.heap.size ≤ k
 apart : ∀ k, ownA PA' = some k → ownA VA' ≠ some k
theorem RGrown2.alloc {PA' VA' : Option Addr} {Pc' Vc' : Nat} {its' : List IB} {vts' : List It} {D W W' : World} (h : RGrown2 gb B PA VA D PA' Pc' VA' Vc' its' vts' W) (hg : gb < D.heap.size) (hb : Below W.heap.size W W') : RGrown2 gb B PA VA D PA' Pc' VA' Vc' its' vts' W' :=
 ⟨fun k hk h1 h2 => (hb.block k (by have := h.size; omega)).trans (h.same k hk h1 h2), Nat.le_trans h.size hb.size, h.bel.trans (hb.mono (by have := h.size; omega)), h.row.below hb,
  qbb h.vrow hb.size (fun k e => hb.block k (h.vrow.lt k e).2) (fun b hb => False.elim hb), h.own1, h.own2, h.apart⟩
theorem ROAt.grown {D W : World} (h : ROAt gb mb nn B N g PA0 VA0 w o1 o2 PA Pc VA Vc its vts D) (hB : B ≤ mb) (hmb : mb < gb) (hgw : gb < w.heap.size) (hw1 : ∀ k, ownA PA0 = some k → k < w.heap.size) (hw2 : ∀ k, ownA VA0 = some k → k < w.heap.size)
  {PA' VA' : Option Addr} {Pc' Vc' : Nat} {its' : List IB} {vts' : List It} (hG : RGrown2 gb B PA VA D PA' Pc' VA' Vc' its' vts' W) {g' : Gs} (hn : g'.next = g.next) (hp : its'.map IB.bd = g'.pairs) (hv : vts'.map (·.1) = g'.vars) (hlf : ∀ x ∈ vts', x.1.kids = []) :
  ROAt gb mb nn B N g' PA0 VA0 w o1 o2 PA' Pc' VA' Vc' its' vts' ((W.setCell ⟨gb, 2, none⟩ (.slice PA' its'.length Pc')).setCell ⟨gb, 3, none⟩ (.slice VA' vts'.length Vc')) := by
 have hl := h.lt;have hgl := h.gen.lt;have n1 : ∀ k, ownA PA = some k → k ≠ gb ∧ k ≠ mb ∧ k ≠ w.heap.size ∧ k ≠ w.heap.size + 1 ∧ k ≠ w.heap.size + 1 + 1 := fun k e => by
  have h1 := h.gen.own1 k e;rcases h.own1 k e with h2 | h2
  ·have := hw1 k h2; omega
  ·omega
 have n2 : ∀ k, ownA VA = some k → k ≠ gb ∧ k ≠ mb ∧ k ≠ w.heap.size ∧ k ≠ w.heap.size + 1 ∧ k ≠ w.heap.size + 1 + 1 := fun k e => by
  have h1 := h.gen.own2 k e;rcases h.own2 k e with h2 | h2
  ·have := hw2 k h2; omega
  ·omega
 obtain ⟨Y, hY⟩ : ∃ Y, Y = (W.setCell ⟨gb, 2, none⟩ (.slice PA' its'.length Pc')).setCell ⟨gb, 3, none⟩ (.slice VA' vts'.length Vc') := ⟨_, rfl⟩;have ho : ∀ k, k ≠ gb → Y.heap[k]? = W.heap[k]? := fun k hk => by rw [hY, Below.heap_setCell _ _ _ _ hk, Below.heap_setCell _ _ _ _ hk]
 have hsz : Y.heap.size = W.heap.size := by rw [hY]; simp [World.setCell]
 have hbY : Below gb w Y := by
  rw [hY];refine Below.setCell (Below.setCell (h.bel.trans hG.bel) (by exact Nat.le_refl gb) _) (by exact Nat.le_refl gb) _
 have same : ∀ k, k < D.heap.size → k ≠ gb → ownA PA ≠ some k → ownA VA ≠ some k → Y.heap[k]? = D.heap[k]? := fun k hk h1 h2 h3 => (ho k h1).trans (hG.same k hk h2 h3);have hc : Y.heap[gb]? = some (qme nn g'.next (.slice PA' its'.length Pc') (.slice VA' vts'.length Vc')) := by
  rw [hY, hn];exact qhp ((hG.same gb hgl (fun e => (n1 gb e).1 rfl) (fun e => (n2 gb e).1 rfl)).trans h.gen.cell)
 rw [← hY];refine ⟨⟨hc, h.gen.set.keep (by have := hG.size; omega) (fun k hk2 => same k (by omega) (by omega) (fun e => by have := h.gen.own1 k e; omega) (fun e => by have := h.gen.own2 k e; omega)), hG.row.keep (by omega) (fun b hb hor => ho b ?_), qbb hG.vrow (by omega) (fun k e => ho k (by have := (hG.vrow.lt k e).1; omega)) (fun b hb => False.elim hb), hp, hv, hlf, hG.apart⟩,
  (same _ (by omega) (by omega) (fun e => (n1 _ e).2.2.1 rfl) (fun e => (n2 _ e).2.2.1 rfl)).trans h.b1, (same _ (by omega) (by omega) (fun e => (n1 _ e).2.2.2.1 rfl) (fun e => (n2 _ e).2.2.2.1 rfl)).trans h.b2, (same _ (by omega) (by omega) (fun e => (n1 _ e).2.2.2.2 rfl) (fun e => (n2 _ e).2.2.2.2 rfl)).trans h.b3, hbY, fun k hk h1 h2 h3 => ?_, fun k e => ?_, fun k e => ?_⟩
 ·rcases hor with h1 | h1
  ·omega
  ·have := (hG.row.lt b h1).1; omega
 ·refine (same k (by omega) h1 (fun e => ?_) (fun e => ?_)).trans (h.old k hk h1 h2 h3)
  ·rcases h.own1 k e with h4 | h4
   ·exact h2 h4
   ·omega
  ·rcases h.own2 k e with h4 | h4
   ·exact h3 h4
   ·omega
 ·rcases hG.own1 k e with h1 | h1
  ·exact h.own1 k h1
  ·exact .inr (by omega)
 ·rcases hG.own2 k e with h1 | h1
  ·exact h.own2 k h1
  ·exact .inr (by omega)
end
section
variable {gb mb : Nat} {nn : MkV} {B : Nat} {PA VA PA1 VA1 : Option Addr} {Pc1 Vc1 : Nat} {its1 : List IB} {vts1 : List It} {D W : World}
theorem RGrown2.push1 (h : RGrown2 gb B PA VA D PA1 Pc1 VA1 Vc1 its1 vts1 W) (hg : gb < D.heap.size) (hB : B ≤ gb) (X : IB) (pb : Nat) (hz : W.heap[pb]? = some (.cells (bCells [X]).toArray 57 (0, 0)))
  (h1 : RepP W (fun b => b < B) X.1.1 X.1.2.1 X.1.2.2) (h2 : RepP W (fun b => b < B) X.2.1 X.2.2.1 X.2.2.2) (hlen : its1.length + 1 ≤ 100000000) :
  ∃ g9 c9 W', (∀ ty, (Builtin.append_ #[58, 58] ty #[.slice PA1 its1.length Pc1, .slice (some ⟨pb, 0, none⟩) 1 1]).run Tryz.prog W = .ok (.slice (some ⟨g9, 0, none⟩) (its1.length + 1) c9) W') ∧
   RGrown2 gb B PA VA D (some ⟨g9, 0, none⟩) c9 VA1 Vc1 (its1 ++ [X]) vts1 W' ∧ (∀ k, k < W.heap.size → ownA PA1 ≠ some k → W'.heap[k]? = W.heap[k]?) ∧ W.heap.size ≤ W'.heap.size := by
 have hsz := h.size;have lift : ∀ (t : Tm) A c, RepP W (fun b => b < B) t A c → RepP W (fun b => b < B ∧ b < W.heap.size ∧ (Value.slice PA1 its1.length Pc1).ownBlock ≠ some b) t A c := fun t A c hr =>
  RepP.mono (fun b (hb : b < B) => ⟨hb, by omega, fun e => by have := (h.row.lt b e).1; omega⟩) (fun _ _ => rfl) _ _ _ hr
 obtain ⟨g9, c9, W', hap, hrow9, hgr9, hown9⟩ := h.row.more elemRPair (by omega) [X] (by simp) pb 0 1 (fun j v hj => by rw [Nat.zero_add, cell_of_row W pb j _ _ _ hz]; simpa using hj) (fun y hy => by rw [List.mem_singleton] at hy; subst hy; exact ⟨lift _ _ _ h1, lift _ _ _ h2⟩) hlen;rw [qaq] at hgr9 hown9;have hk : ∀ k, k < W.heap.size → ownA PA1 ≠ some k → W'.heap[k]? = W.heap[k]? := fun k hk hne => hgr9.block k hk (fun e => hne e.symm);have hs9 := hgr9.size;refine ⟨g9, c9, W', hap, ⟨fun k hk1 e1 e2 => (hk k (by omega) (fun e => ?_)).trans (h.same k hk1 e1 e2), by omega, ?_, by rw [List.length_append]; exact hrow9, qbb h.vrow hs9 (fun k e => ?_) (fun b hb => False.elim hb), fun k e => ?_, h.own2, fun k e e2 => ?_⟩, hk, hs9⟩
 ·rcases h.own1 k e with h3 | h3
  ·exact e1 h3
  ·omega
 ·exact h.bel.grown hgr9 (by omega) (fun j e => by have := h.row.lt j (by rw [qaq]; exact e); omega)
 ·have hl := (h.vrow.lt k e).2;rw [qaq] at e;exact hk k hl (fun e3 => h.apart k e3 e)
 ·have e : some g9 = some k := e;injection e with e;subst e;rcases hown9 with h3 | h3
  ·exact h.own1 _ h3
  ·exact .inr (by omega)
 ·have e : some g9 = some k := e;injection e with e;subst e;have hl := (h.vrow.lt g9 (by rw [qaq]; exact e2)).2;rcases hown9 with h3 | h3
  ·exact h.apart _ h3 e2
  ·omega
theorem RGrown2.push2 (h : RGrown2 gb B PA VA D PA1 Pc1 VA1 Vc1 its1 vts1 W) (hg : gb < D.heap.size) (hB : B ≤ gb) (x : Tm) (hx : x.kids = []) (hxn : x.name.size ≤ maxLen) (pb : Nat) (hz : W.heap[pb]? = some (boxT x none 0)) (hlen : vts1.length + 1 ≤ 100000000) :
  ∃ g9 c9 W', (∀ ty, (Builtin.append_ #[22, 22] ty #[.slice VA1 vts1.length Vc1, .slice (some ⟨pb, 0, none⟩) 1 1]).run Tryz.prog W = .ok (.slice (some ⟨g9, 0, none⟩) (vts1.length + 1) c9) W') ∧
   RGrown2 gb B PA VA D PA1 Pc1 (some ⟨g9, 0, none⟩) c9 its1 (vts1 ++ [(x, none, 0)]) W' ∧ (∀ k, k < W.heap.size → ownA VA1 ≠ some k → W'.heap[k]? = W.heap[k]?) ∧ W.heap.size ≤ W'.heap.size := by
 have hsz := h.size;obtain ⟨g9, c9, W', hap, hrow9, hgr9, hg9⟩ := qi8 h.vrow (by omega) x hx hxn pb hz hlen;rw [qaq] at hgr9 hg9;have hk : ∀ k, k < W.heap.size → ownA VA1 ≠ some k → W'.heap[k]? = W.heap[k]? := fun k hk hne => hgr9.block k hk (fun e => hne e.symm);have hs9 := hgr9.size;refine ⟨g9, c9, W', hap, ⟨fun k hk1 e1 e2 => (hk k (by omega) (fun e => ?_)).trans (h.same k hk1 e1 e2), by omega, ?_, h.row.keep hs9 (fun b hb hor => ?_), by rw [List.length_append]; exact hrow9, h.own1, fun k e => ?_, fun k e e2 => ?_⟩, hk, hs9⟩
 ·rcases h.own2 k e with h3 | h3
  ·exact e2 h3
  ·omega
 ·exact h.bel.grown hgr9 (by omega) (fun j e => by have := h.vrow.lt j (by rw [qaq]; exact e); omega)
 ·refine hk b hb (fun e => ?_);rcases hor with h3 | h3
  ·have := (h.vrow.lt b (by rw [qaq]; exact e)).1; omega
  ·rw [qaq] at h3; exact h.apart b h3 e
 ·have e : some g9 = some k := e;injection e with e;subst e;rcases hg9 with h3 | h3
  ·exact h.own2 _ h3
  ·exact .inr (by omega)
 ·have e2 : some g9 = some k := e2;injection e2 with e2;subst e2;have hl := (h.row.lt g9 (by rw [qaq]; exact e)).2;rcases hg9 with h3 | h3
  ·exact h.apart _ e h3
  ·omega
end
section
variable {gb mb : Nat} {nn : MkV} {B : Nat} {N : List ByteArray} {g g' : Gs} {PA0 VA0 PA VA PA' VA' : Option Addr} {Pc Vc Pc' Vc' : Nat} {its its' : List IB} {vts vts' : List It} {w Z Z' : World} {o1 o2 : Obj}
theorem ROAt.call (h : ROAt gb mb nn B N g PA0 VA0 w o1 o2 PA Pc VA Vc its vts Z) (hgw : gb < w.heap.size) (hw1 : ∀ k, ownA PA0 = some k → k < w.heap.size) (hw2 : ∀ k, ownA VA0 = some k → k < w.heap.size) {r : Tm} {A : Option Addr} {c : Nat}
  (hf : ROfAt gb mb nn B N g' r A c PA VA Z PA' Pc' VA' Vc' its' vts' Z') : ROAt gb mb nn B N g' PA0 VA0 w o1 o2 PA' Pc' VA' Vc' its' vts' Z' := by
 have hl := h.lt;have n1 : ∀ k, k < w.heap.size + 3 → w.heap.size ≤ k → ownA PA ≠ some k ∧ ownA VA ≠ some k := fun k h1 h2 => ⟨fun e => by
  rcases h.own1 k e with h3 | h3
  ·have := hw1 k h3; omega
  ·omega, fun e => by
  rcases h.own2 k e with h3 | h3
  ·have := hw2 k h3; omega
  ·omega⟩
 have st : ∀ k, k < w.heap.size + 3 → w.heap.size ≤ k → Z'.heap[k]? = Z.heap[k]? := fun k h1 h2 => hf.old k (by omega) (by omega) (n1 k h1 h2).1 (n1 k h1 h2).2;refine ⟨hf.gen, (st _ (by omega) (by omega)).trans h.b1, (st _ (by omega) (by omega)).trans h.b2, (st _ (by omega) (by omega)).trans h.b3, h.bel.trans hf.bel, fun k hk h1 h2 h3 => (hf.old k (by omega) h1 (fun e => ?_) (fun e => ?_)).trans (h.old k hk h1 h2 h3), fun k e => ?_, fun k e => ?_⟩
 ·rcases h.own1 k e with h4 | h4
  ·exact h2 h4
  ·omega
 ·rcases h.own2 k e with h4 | h4
  ·exact h3 h4
  ·omega
 ·rcases hf.own1 k e with h4 | h4
  ·exact h.own1 k h4
  ·exact .inr (by omega)
 ·rcases hf.own2 k e with h4 | h4
  ·exact h.own2 k h4
  ·exact .inr (by omega)
theorem ROAt.write (h : ROAt gb mb nn B N g PA0 VA0 w o1 o2 PA Pc VA Vc its vts Z) (hgw : gb < w.heap.size) (hmb : mb < gb) (hB : B ≤ mb) {p : Addr} (v : Value) (hp : w.heap.size + 3 ≤ p.block) (h1 : ownA PA ≠ some p.block) (h2 : ownA VA ≠ some p.block) :
  ROAt gb mb nn B N g PA0 VA0 w o1 o2 PA Pc VA Vc its vts (Z.setCell p v) := by
 have hk : ∀ k, k ≠ p.block → (Z.setCell p v).heap[k]? = Z.heap[k]? := fun k hk => Below.heap_setCell _ _ _ _ hk;refine ⟨h.gen.keep (by simp [World.setCell]) (fun k _ hor => hk k ?_), (hk _ (by omega)).trans h.b1, (hk _ (by omega)).trans h.b2, (hk _ (by omega)).trans h.b3, h.bel.setCell (by omega) _, fun k hk' e1 e2 e3 => (hk k (by omega)).trans (h.old k hk' e1 e2 e3), h.own1, h.own2⟩;rcases hor with h3 | h3 | h3 | h3 | h3
 ·omega
 ·omega
 ·omega
 ·exact fun e => h1 (by rw [← e]; exact h3)
 ·exact fun e => h2 (by rw [← e]; exact h3)
theorem ROAt.box1 {a1 a2 a3 a4 : Value} {T : TypeId} (h : ROAt gb mb nn B N g PA0 VA0 w (.cells #[a1, a2, a3, a4] T (0, 0)) o2 PA Pc VA Vc its vts Z) (hgw : gb < w.heap.size) (hmb : mb < gb) (hB : B ≤ mb) (hw1 : ∀ k, ownA PA0 = some k → k < w.heap.size) (hw2 : ∀ k, ownA VA0 = some k → k < w.heap.size) (v : Value) :
  ROAt gb mb nn B N g PA0 VA0 w (.cells #[a1, a2, a3, v] T (0, 0)) o2 PA Pc VA Vc its vts (Z.setCell ⟨w.heap.size, 3, none⟩ v) := by
 have hk : ∀ k, k ≠ w.heap.size → (Z.setCell ⟨w.heap.size, 3, none⟩ v).heap[k]? = Z.heap[k]? := fun k hk => Below.heap_setCell _ _ _ _ hk;refine ⟨h.gen.keep (by simp [World.setCell]) (fun k _ hor => hk k ?_), qho h.b1, (hk _ (by omega)).trans h.b2, (hk _ (by omega)).trans h.b3, h.bel.setCell (by show gb ≤ w.heap.size; omega) _, fun k hk' e1 e2 e3 => (hk k (by omega)).trans (h.old k hk' e1 e2 e3), h.own1, h.own2⟩;rcases hor with h3 | h3 | h3 | h3 | h3
 ·omega
 ·omega
 ·omega
 ·rcases h.own1 k h3 with h4 | h4
  ·have := hw1 k h4; omega
  ·omega
 ·rcases h.own2 k h3 with h4 | h4
  ·have := hw2 k h4; omega
  ·omega
end
end Go.Proofs.YtpjmdilpldaapaaGreatDoor
namespace Go.Proofs.YtpjmdilpldaapaaGreatDoor
theorem qas {P : Program} {ops : Array Oper} {Q : Exit → Act → World → Prop} {S S2 : World → Prop} {wk : List Nat} {i : Nat} {r : Mx3} {a : Act} {w : World} {o : Oper} {v : Value} (ho : ops[i]? = some o) (hg : Region.wanted o (yielded ops a.tmps) = true) (hw : wk.contains i = false) (hQ : ∀ c a' w', Q (.panic c) (a'.put o.dst v) w' → Q (.panic c) a' w')
  (hS : S w) (hS2 : S2 w) (hv : ∀ w, S w → S2 w → (execOp a.eval o).run P w = .ok (.value v) w) (h : qa3 P ops Q S S2 wk r (a.put o.dst v) w) : qa3 P ops Q S S2 wk (.held i r) a w :=
 ⟨⟨fun _ => hS, hS2⟩, o, v, ho, Or.inl ⟨hg, fun w h => hv w (h.1 hw) h.2⟩, hQ, h⟩
theorem qcg {P : Program} {ops : Array Oper} {Q : Exit → Act → World → Prop} {S S2 : World → Prop} {wk : List Nat} {i : Nat} {r : Mx3} {a : Act} {w : World} {o : Oper} (ho : ops[i]? = some o) (hg : Region.wanted o (yielded ops a.tmps) = false) (_hw : wk.contains i = false) (hQ : ∀ c a' w', Q (.panic c) (a'.put o.dst undef) w' → Q (.panic c) a' w')
  (hS : S w) (hS2 : S2 w) (h : qa3 P ops Q S S2 wk r (a.put o.dst undef) w) : qa3 P ops Q S S2 wk (.held i r) a w :=
 ⟨⟨fun _ => hS, hS2⟩, o, undef, ho, Or.inr ⟨hg, rfl⟩, hQ, h⟩
end Go.Proofs.YtpjmdilpldaapaaGreatDoor
