/- Ugof0 (joined by shake.py). -/
import Derived.Test.YtpjmdilpldaapaaGreatDoorV7
import Derived.Test.YtpjmdilpldaapaaGreatDoorV12
namespace Go.Proofs.YtpjmdilpldaapaaGreatDoor
open Go.RowKit Go.Sort
theorem qez {t u : Tm} : ∀ (ps : List Bd) (vs : List Tm) (n : Int), vs.length = ps.length → FoundP (fun b : Bd => decide (b.1 = t) && decide (b.2 = u)) ps n →
  (n < 0 ∧ lookG t u ps vs = none) ∨ ∃ (i : Nat) (h : i < vs.length), n = i ∧ lookG t u ps vs = some vs[i]
 | [], vs, n, _, h => by
  rcases h with ⟨h, -⟩ | ⟨i, -, hi, -⟩
  ·exact .inl ⟨h, by rw [lookG]; simp⟩
  ·exact absurd hi (Nat.not_lt_zero i)
 | p :: ps, [], n, hl, _ => by simp at hl
 | p :: ps, v :: vs, n, hl, h => by
  rw [lookG];by_cases e : p.1 = t ∧ p.2 = u
  ·rw [if_pos e];have hp : (decide (p.1 = t) && decide (p.2 = u)) = true := by simp [e.1, e.2]
   rcases h with ⟨-, h⟩ | ⟨i, h1, hi, h2, h3⟩
   ·have h9 : (decide (p.1 = t) && decide (p.2 = u)) = false := h p (List.mem_cons_self ..);rw [hp] at h9; cases h9
   ·cases i with
    | zero => exact .inr ⟨0, by simp, h1, rfl⟩
    | succ i =>
     have h9 : (decide (p.1 = t) && decide (p.2 = u)) = false := h3 0 (by simp) (by omega);rw [hp] at h9; cases h9
  ·rw [if_neg e];rcases h with ⟨h, h2⟩ | ⟨i, h1, hi, h2, h3⟩
   ·rcases qez ps vs n (by simpa using hl) (.inl ⟨h, fun b hb => h2 b (List.mem_cons_of_mem _ hb)⟩) with h | ⟨j, hj, h4, -⟩
    ·exact .inl h
    ·omega
   ·cases i with
    | zero =>
     have h2 : (decide (p.1 = t) && decide (p.2 = u)) = true := h2;rw [Bool.and_eq_true, decide_eq_true_iff, decide_eq_true_iff] at h2;exact absurd h2 e
    | succ i =>
     rcases qez ps vs (i : Int) (by simpa using hl) (.inr ⟨i, rfl, by simpa using hi, h2, fun j hj hji => h3 (j + 1) (by simpa using hj) (by omega)⟩) with ⟨h, -⟩ | ⟨j, hj, h4, h5⟩
     ·omega
     ·have hji : j = i := by omega
      subst hji;exact .inr ⟨j + 1, by simpa using hj, by rw [h1], by rw [h5]; rfl⟩
theorem qn1 {t u : Tm} (ht : t.valid = 0) (hu : u.valid = 0) (hne : t ≠ u) (h : qbd t u = true) : 0 < t.kids.length := by
 obtain ⟨k1, k2, hn, hl⟩ := qbh.1 h;rcases Nat.eq_zero_or_pos t.kids.length with h0 | h0
 ·exfalso;apply hne;have s1 := qdg ht k1;have s2 := qdg hu k2;obtain ⟨a1, a2, a3, a4⟩ := t;obtain ⟨c1, c2, c3, c4⟩ := u;simp only [Tm.kind, Tm.name, Tm.sort, Tm.kids] at k1 k2 hn hl h0 s1 s2;have e1 := List.eq_nil_of_length_eq_zero h0;have e2 := List.eq_nil_of_length_eq_zero (hl.symm.trans h0);rw [k1, k2, hn, s1, s2, e1, e2]
 ·exact h0
theorem qnn {W : World} {B : Nat} {a b c d x y : Value} {T : TypeId} (h : W.heap[B]? = some (.cells #[a, b, c, d] T (0, 0))) : ((W.setCell ⟨B, 2, none⟩ x).setCell ⟨B, 3, none⟩ y).heap[B]? = some (.cells #[a, b, x, y] T (0, 0)) := by
 simp [World.setCell, Array.getElem?_modify, h]
section
variable {gb mb nn B : Nat} {N : List ByteArray} {g : Gs} {PA0 VA0 PA VA : Option Addr} {Pc Vc : Nat} {its : List IB} {vts : List It} {w Z Z' : World} {o1 o2 : Obj}
theorem OAt.freshed (h : OAt gb mb nn B N g PA0 VA0 w o1 o2 PA Pc VA Vc its vts Z) (hB : B ≤ mb) (hmb : mb < gb) (hgw : gb < w.heap.size) {m : Nat} (hf : Freshed gb mb nn N (.slice PA its.length Pc) (.slice VA vts.length Vc) m Z Z') :
  OAt gb mb nn B N { g with next := m } PA0 VA0 w o1 o2 PA Pc VA Vc its vts Z' := by
 have hl := h.lt;have hgl := h.gen.lt;refine ⟨⟨hf.cell, h.gen.set.keep (hf.old mb (by omega) (by omega)), h.gen.row.keep hf.size (fun b hb hor => hf.old b hb ?_), qb8 h.gen.vrow hf.size (fun k e => by rw [qbr] at e; have := h.gen.own2 k e; exact hf.old k this.2 (by omega)) (fun b hb => False.elim hb), h.gen.pairs, h.gen.vars, h.gen.leaf, h.gen.apart⟩,
  (hf.old _ (by omega) (by omega)).trans h.b1, (hf.old _ (by omega) (by omega)).trans h.b2, (hf.old _ (by omega) (by omega)).trans h.b3, h.bel.trans hf.bel, fun k hk h1 h2 h3 => (hf.old k (by omega) h1).trans (h.old k hk h1 h2 h3), h.own1, h.own2⟩
 rcases hor with h1 | h1
 ·omega
 ·rw [qbr] at h1; have := h.gen.own1 b h1; omega
structure Grown2 (gb B : Nat) (PA VA : Option Addr) (D : World) (PA' : Option Addr) (Pc' : Nat) (VA' : Option Addr) (Vc' : Nat) (its' : List IB) (vts' : List It) (W : World) : Prop where
 same : ∀ k, k < D.heap.size → ownA PA ≠ some k → ownA VA ≠ some k → W.heap[k]? = D.heap[k]?
 size : D.heap.size ≤ W.heap.size
 bel : Below gb D W
 row : RowG 53 W (gb + 1) (fun b => b < B) (.slice PA' its'.length Pc') its'
 vrow : RowT W (gb + 1) (fun _ => False) (.slice VA' vts'.length Vc') vts'
 own1 : ∀ k, ownA PA' = some k → ownA PA = some k ∨ D.heap.size ≤ k
 own2 : ∀ k, ownA VA' = some k → ownA VA = some k ∨ D.heap.size ≤ k
 apart : ∀ k, ownA PA' = some k → ownA VA' ≠ some k
theorem Grown2.alloc {PA' VA' : Option Addr} {Pc' Vc' : Nat} {its' : List IB} {vts' : List It} {D W W' : World} (h : Grown2 gb B PA VA D PA' Pc' VA' Vc' its' vts' W) (hg : gb < D.heap.size) (hb : Below W.heap.size W W') : Grown2 gb B PA VA D PA' Pc' VA' Vc' its' vts' W' :=
 ⟨fun k hk h1 h2 => (hb.block k (by have := h.size; omega)).trans (h.same k hk h1 h2), Nat.le_trans h.size hb.size, h.bel.trans (hb.mono (by have := h.size; omega)), h.row.below hb,
  qb8 h.vrow hb.size (fun k e => hb.block k (h.vrow.lt k e).2) (fun b hb => False.elim hb), h.own1, h.own2, h.apart⟩
theorem OAt.grown {D W : World} (h : OAt gb mb nn B N g PA0 VA0 w o1 o2 PA Pc VA Vc its vts D) (hB : B ≤ mb) (hmb : mb < gb) (hgw : gb < w.heap.size) (hw1 : ∀ k, ownA PA0 = some k → k < w.heap.size) (hw2 : ∀ k, ownA VA0 = some k → k < w.heap.size)
  {PA' VA' : Option Addr} {Pc' Vc' : Nat} {its' : List IB} {vts' : List It} (hG : Grown2 gb B PA VA D PA' Pc' VA' Vc' its' vts' W) {g' : Gs} (hn : g'.next = g.next) (hp : its'.map IB.bd = g'.pairs) (hv : vts'.map (·.1) = g'.vars) (hlf : ∀ x ∈ vts', x.1.kids = []) :
  OAt gb mb nn B N g' PA0 VA0 w o1 o2 PA' Pc' VA' Vc' its' vts' ((W.setCell ⟨gb, 2, none⟩ (.slice PA' its'.length Pc')).setCell ⟨gb, 3, none⟩ (.slice VA' vts'.length Vc')) := by
 have hl := h.lt;have hgl := h.gen.lt;have n1 : ∀ k, ownA PA = some k → k ≠ gb ∧ k ≠ mb ∧ k ≠ w.heap.size ∧ k ≠ w.heap.size + 1 ∧ k ≠ w.heap.size + 1 + 1 := fun k e => by
  have h1 := h.gen.own1 k e;rcases h.own1 k e with h2 | h2
  ·have := hw1 k h2; omega
  ·omega
 have n2 : ∀ k, ownA VA = some k → k ≠ gb ∧ k ≠ mb ∧ k ≠ w.heap.size ∧ k ≠ w.heap.size + 1 ∧ k ≠ w.heap.size + 1 + 1 := fun k e => by
  have h1 := h.gen.own2 k e;rcases h.own2 k e with h2 | h2
  ·have := hw2 k h2; omega
  ·omega
 obtain ⟨Y, hY⟩ : ∃ Y, Y = (W.setCell ⟨gb, 2, none⟩ (.slice PA' its'.length Pc')).setCell ⟨gb, 3, none⟩ (.slice VA' vts'.length Vc') := ⟨_, rfl⟩;have ho : ∀ k, k ≠ gb → Y.heap[k]? = W.heap[k]? := fun k hk => by rw [hY, Below.heap_setCell _ _ _ _ hk, Below.heap_setCell _ _ _ _ hk]
 have hsz : Y.heap.size = W.heap.size := by rw [hY]; simp [World.setCell]
 have hbY : Below gb w Y := by
  rw [hY];refine Below.setCell (Below.setCell (h.bel.trans hG.bel) (by exact Nat.le_refl gb) _) (by exact Nat.le_refl gb) _
 have same : ∀ k, k < D.heap.size → k ≠ gb → ownA PA ≠ some k → ownA VA ≠ some k → Y.heap[k]? = D.heap[k]? := fun k hk h1 h2 h3 => (ho k h1).trans (hG.same k hk h2 h3);have hc : Y.heap[gb]? = some (qkg mb g'.next (.slice PA' its'.length Pc') (.slice VA' vts'.length Vc')) := by
  rw [hY, hn];exact qnn ((hG.same gb hgl (fun e => (n1 gb e).1 rfl) (fun e => (n2 gb e).1 rfl)).trans h.gen.cell)
 rw [← hY];refine ⟨⟨hc, h.gen.set.keep (same mb (by omega) (by omega) (fun e => (n1 mb e).2.1 rfl) (fun e => (n2 mb e).2.1 rfl)), hG.row.keep (by omega) (fun b hb hor => ho b ?_), qb8 hG.vrow (by omega) (fun k e => ho k (by have := (hG.vrow.lt k e).1; omega)) (fun b hb => False.elim hb), hp, hv, hlf, hG.apart⟩,
  (same _ (by omega) (by omega) (fun e => (n1 _ e).2.2.1 rfl) (fun e => (n2 _ e).2.2.1 rfl)).trans h.b1, (same _ (by omega) (by omega) (fun e => (n1 _ e).2.2.2.1 rfl) (fun e => (n2 _ e).2.2.2.1 rfl)).trans h.b2, (same _ (by omega) (by omega) (fun e => (n1 _ e).2.2.2.2 rfl) (fun e => (n2 _ e).2.2.2.2 rfl)).trans h.b3, hbY, fun k hk h1 h2 h3 => ?_, fun k e => ?_, fun k e => ?_⟩
 ·rcases hor with h1 | h1
  ·omega
  ·have := (hG.row.lt b h1).1; omega
 ·refine (same k (by omega) h1 (fun e => ?_) (fun e => ?_)).trans (h.old k hk h1 h2 h3)
  ·rcases h.own1 k e with h4 | h4
   ·exact h2 h4
   ·omega
  ·rcases h.own2 k e with h4 | h4
   ·exact h3 h4
   ·omega
 ·rcases hG.own1 k e with h1 | h1
  ·exact h.own1 k h1
  ·exact .inr (by omega)
 ·rcases hG.own2 k e with h1 | h1
  ·exact h.own2 k h1
  ·exact .inr (by omega)
end
section
variable {gb mb nn B : Nat} {PA VA PA1 VA1 : Option Addr} {Pc1 Vc1 : Nat} {its1 : List IB} {vts1 : List It} {D W : World}
theorem Grown2.push1 (h : Grown2 gb B PA VA D PA1 Pc1 VA1 Vc1 its1 vts1 W) (hg : gb < D.heap.size) (hB : B ≤ gb) (X : IB) (pb : Nat) (hz : W.heap[pb]? = some (.cells (bCells [X]).toArray 53 (0, 0)))
  (h1 : RepP W (fun b => b < B) X.1.1 X.1.2.1 X.1.2.2) (h2 : RepP W (fun b => b < B) X.2.1 X.2.2.1 X.2.2.2) (hlen : its1.length + 1 ≤ 100000000) :
  ∃ g9 c9 W', (∀ ty, (Builtin.append_ #[54, 54] ty #[.slice PA1 its1.length Pc1, .slice (some ⟨pb, 0, none⟩) 1 1]).run Tryz.prog W = .ok (.slice (some ⟨g9, 0, none⟩) (its1.length + 1) c9) W') ∧
   Grown2 gb B PA VA D (some ⟨g9, 0, none⟩) c9 VA1 Vc1 (its1 ++ [X]) vts1 W' ∧ (∀ k, k < W.heap.size → ownA PA1 ≠ some k → W'.heap[k]? = W.heap[k]?) ∧ W.heap.size ≤ W'.heap.size := by
 have hsz := h.size;have lift : ∀ (t : Tm) A c, RepP W (fun b => b < B) t A c → RepP W (fun b => b < B ∧ b < W.heap.size ∧ (Value.slice PA1 its1.length Pc1).ownBlock ≠ some b) t A c := fun t A c hr =>
  RepP.mono (fun b (hb : b < B) => ⟨hb, by omega, fun e => by have := (h.row.lt b e).1; omega⟩) (fun _ _ => rfl) _ _ _ hr
 obtain ⟨g9, c9, W', hap, hrow9, hgr9, hown9⟩ := h.row.more qgu (by omega) [X] (by simp) pb 0 1 (fun j v hj => by rw [Nat.zero_add, cell_of_row W pb j _ _ _ hz]; simpa using hj) (fun y hy => by rw [List.mem_singleton] at hy; subst hy; exact ⟨lift _ _ _ h1, lift _ _ _ h2⟩) hlen;rw [qbr] at hgr9 hown9;have hk : ∀ k, k < W.heap.size → ownA PA1 ≠ some k → W'.heap[k]? = W.heap[k]? := fun k hk hne => hgr9.block k hk (fun e => hne e.symm);have hs9 := hgr9.size;refine ⟨g9, c9, W', hap, ⟨fun k hk1 e1 e2 => (hk k (by omega) (fun e => ?_)).trans (h.same k hk1 e1 e2), by omega, ?_, by rw [List.length_append]; exact hrow9, qb8 h.vrow hs9 (fun k e => ?_) (fun b hb => False.elim hb), fun k e => ?_, h.own2, fun k e e2 => ?_⟩, hk, hs9⟩
 ·rcases h.own1 k e with h3 | h3
  ·exact e1 h3
  ·omega
 ·exact h.bel.grown hgr9 (by omega) (fun j e => by have := h.row.lt j (by rw [qbr]; exact e); omega)
 ·have hl := (h.vrow.lt k e).2;rw [qbr] at e;exact hk k hl (fun e3 => h.apart k e3 e)
 ·have e : some g9 = some k := e;injection e with e;subst e;rcases hown9 with h3 | h3
  ·exact h.own1 _ h3
  ·exact .inr (by omega)
 ·have e : some g9 = some k := e;injection e with e;subst e;have hl := (h.vrow.lt g9 (by rw [qbr]; exact e2)).2;rcases hown9 with h3 | h3
  ·exact h.apart _ h3 e2
  ·omega
theorem rowT_leaf {w : World} {base : Nat} {v : Value} {its : List It} (hrow : RowT w base (fun _ => False) v its) (hbase : base ≤ w.heap.size) (x : Tm) (hxk : x.kids = []) (hxn : x.name.size ≤ maxLen) (pb : Nat) (hz : w.heap[pb]? = some (boxT x none 0)) (hlen : its.length + 1 ≤ 100000000) :
  ∃ g cap w', (∀ ty, (Builtin.append_ #[22, 22] ty #[v, .slice (some ⟨pb, 0, none⟩) 1 1]).run Tryz.prog w = .ok (.slice (some ⟨g, 0, none⟩) (its.length + 1) cap) w') ∧
   RowT w' base (fun _ => False) (.slice (some ⟨g, 0, none⟩) (its.length + 1) cap) (its ++ [(x, none, 0)]) ∧ w.grownBy w' v.ownBlock ∧ (v.ownBlock = some g ∨ g = w.heap.size) := by
 obtain ⟨d0, d1, d2, d3, -⟩ := qar x (hz);obtain ⟨i0, hi0, hz0, hz1, hz2⟩ := info_parts qch;obtain ⟨g, cap, w', h1, h2, h3, h4, h5⟩ := run_append_lies (P := Tryz.prog) w 22 0 base 24 i0 _ 4 56 Tryz.underlying22 hi0 hz0 hz1 hz2 rfl (by omega) v its.length (itCells its) hrow.own ⟨pb, 0, none⟩ 1 1 (itCells [(x, none, 0)]) (qbi _)
  (fun j u hj => by
   have e : w.cell? ⟨pb, 0 + j, none⟩ = some u := by
    simp only [itCells, Tm.cells, List.append_nil] at hj;rw [Nat.zero_add]
    match j, hj with
    | 0, hj => simp at hj; subst hj; exact d0
    | 1, hj => simp at hj; subst hj; exact d1
    | 2, hj => simp at hj; subst hj; exact d2
    | 3, hj => simp at hj; subst hj; exact d3
   unfold Addr.add
   split
   ·rename_i hj0; subst hj0; simpa using e
   ·exact e) (qby _) (by omega) (by unfold maxLen; omega) (by omega) hbase w.heap.size rfl
 refine ⟨g, cap, w', fun ty => h1, ⟨by rw [qcb, List.length_append]; exact h2, fun y hy => ?_⟩, h3, h4⟩;have leaf : ∀ (P : Nat → Prop) (y : Tm) (Y : Option Addr) (c : Nat), RepP w (fun b => False ∧ b < w.heap.size ∧ v.ownBlock ≠ some b) y Y c → RepP w' P y Y c := fun P y Y c h => RepP.mono (fun b hb => False.elim hb.1) (fun p hp => False.elim hp.1) _ _ _ h;rcases List.mem_append.1 hy with hy | hy
 ·exact leaf _ _ _ _ (hrow.reps y hy)
 ·rw [List.mem_singleton] at hy; subst hy;obtain ⟨a1, a2, a3, a4⟩ := x;have hxk : a4 = [] := hxk;subst hxk;rw [qbo];exact ⟨hxn, Nat.le_refl _, Nat.zero_le _, .inl rfl⟩
theorem Grown2.push2 (h : Grown2 gb B PA VA D PA1 Pc1 VA1 Vc1 its1 vts1 W) (hg : gb < D.heap.size) (hB : B ≤ gb) (x : Tm) (hx : x.kids = []) (hxn : x.name.size ≤ maxLen) (pb : Nat) (hz : W.heap[pb]? = some (boxT x none 0)) (hlen : vts1.length + 1 ≤ 100000000) :
  ∃ g9 c9 W', (∀ ty, (Builtin.append_ #[22, 22] ty #[.slice VA1 vts1.length Vc1, .slice (some ⟨pb, 0, none⟩) 1 1]).run Tryz.prog W = .ok (.slice (some ⟨g9, 0, none⟩) (vts1.length + 1) c9) W') ∧
   Grown2 gb B PA VA D PA1 Pc1 (some ⟨g9, 0, none⟩) c9 its1 (vts1 ++ [(x, none, 0)]) W' ∧ (∀ k, k < W.heap.size → ownA VA1 ≠ some k → W'.heap[k]? = W.heap[k]?) ∧ W.heap.size ≤ W'.heap.size := by
 have hsz := h.size;obtain ⟨g9, c9, W', hap, hrow9, hgr9, hg9⟩ := rowT_leaf h.vrow (by omega) x hx hxn pb hz hlen;rw [qbr] at hgr9 hg9;have hk : ∀ k, k < W.heap.size → ownA VA1 ≠ some k → W'.heap[k]? = W.heap[k]? := fun k hk hne => hgr9.block k hk (fun e => hne e.symm);have hs9 := hgr9.size;refine ⟨g9, c9, W', hap, ⟨fun k hk1 e1 e2 => (hk k (by omega) (fun e => ?_)).trans (h.same k hk1 e1 e2), by omega, ?_, h.row.keep hs9 (fun b hb hor => ?_), by rw [List.length_append]; exact hrow9, h.own1, fun k e => ?_, fun k e e2 => ?_⟩, hk, hs9⟩
 ·rcases h.own2 k e with h3 | h3
  ·exact e2 h3
  ·omega
 ·exact h.bel.grown hgr9 (by omega) (fun j e => by have := h.vrow.lt j (by rw [qbr]; exact e); omega)
 ·refine hk b hb (fun e => ?_);rcases hor with h3 | h3
  ·have := (h.vrow.lt b (by rw [qbr]; exact e)).1; omega
  ·rw [qbr] at h3; exact h.apart b h3 e
 ·have e : some g9 = some k := e;injection e with e;subst e;rcases hg9 with h3 | h3
  ·exact h.own2 _ h3
  ·exact .inr (by omega)
 ·have e2 : some g9 = some k := e2;injection e2 with e2;subst e2;have hl := (h.row.lt g9 (by rw [qbr]; exact e)).2;rcases hg9 with h3 | h3
  ·exact h.apart _ e h3
  ·omega
end
section
variable {gb mb nn B : Nat} {N : List ByteArray} {g g' : Gs} {PA0 VA0 PA VA PA' VA' : Option Addr} {Pc Vc Pc' Vc' : Nat} {its its' : List IB} {vts vts' : List It} {w Z Z' : World} {o1 o2 : Obj}
theorem OAt.call (h : OAt gb mb nn B N g PA0 VA0 w o1 o2 PA Pc VA Vc its vts Z) (hgw : gb < w.heap.size) (hw1 : ∀ k, ownA PA0 = some k → k < w.heap.size) (hw2 : ∀ k, ownA VA0 = some k → k < w.heap.size) {r : Tm} {A : Option Addr} {c : Nat}
  (hf : OfAt gb mb nn B N g' r A c PA VA Z PA' Pc' VA' Vc' its' vts' Z') : OAt gb mb nn B N g' PA0 VA0 w o1 o2 PA' Pc' VA' Vc' its' vts' Z' := by
 have hl := h.lt;have n1 : ∀ k, k < w.heap.size + 3 → w.heap.size ≤ k → ownA PA ≠ some k ∧ ownA VA ≠ some k := fun k h1 h2 => ⟨fun e => by
  rcases h.own1 k e with h3 | h3
  ·have := hw1 k h3; omega
  ·omega, fun e => by
  rcases h.own2 k e with h3 | h3
  ·have := hw2 k h3; omega
  ·omega⟩
 have st : ∀ k, k < w.heap.size + 3 → w.heap.size ≤ k → Z'.heap[k]? = Z.heap[k]? := fun k h1 h2 => hf.old k (by omega) (by omega) (n1 k h1 h2).1 (n1 k h1 h2).2;refine ⟨hf.gen, (st _ (by omega) (by omega)).trans h.b1, (st _ (by omega) (by omega)).trans h.b2, (st _ (by omega) (by omega)).trans h.b3, h.bel.trans hf.bel, fun k hk h1 h2 h3 => (hf.old k (by omega) h1 (fun e => ?_) (fun e => ?_)).trans (h.old k hk h1 h2 h3), fun k e => ?_, fun k e => ?_⟩
 ·rcases h.own1 k e with h4 | h4
  ·exact h2 h4
  ·omega
 ·rcases h.own2 k e with h4 | h4
  ·exact h3 h4
  ·omega
 ·rcases hf.own1 k e with h4 | h4
  ·exact h.own1 k h4
  ·exact .inr (by omega)
 ·rcases hf.own2 k e with h4 | h4
  ·exact h.own2 k h4
  ·exact .inr (by omega)
theorem OAt.write (h : OAt gb mb nn B N g PA0 VA0 w o1 o2 PA Pc VA Vc its vts Z) (hgw : gb < w.heap.size) (hmb : mb < gb) (hB : B ≤ mb) {p : Addr} (v : Value) (hp : w.heap.size + 3 ≤ p.block) (h1 : ownA PA ≠ some p.block) (h2 : ownA VA ≠ some p.block) :
  OAt gb mb nn B N g PA0 VA0 w o1 o2 PA Pc VA Vc its vts (Z.setCell p v) := by
 have hk : ∀ k, k ≠ p.block → (Z.setCell p v).heap[k]? = Z.heap[k]? := fun k hk => Below.heap_setCell _ _ _ _ hk;refine ⟨h.gen.keep (by simp [World.setCell]) (fun k _ hor => hk k ?_), (hk _ (by omega)).trans h.b1, (hk _ (by omega)).trans h.b2, (hk _ (by omega)).trans h.b3, h.bel.setCell (by omega) _, fun k hk' e1 e2 e3 => (hk k (by omega)).trans (h.old k hk' e1 e2 e3), h.own1, h.own2⟩;rcases hor with h3 | h3 | h3 | h3 | h3
 ·omega
 ·omega
 ·omega
 ·exact fun e => h1 (by rw [← e]; exact h3)
 ·exact fun e => h2 (by rw [← e]; exact h3)
theorem qnm {W : World} {b : Nat} {a1 a2 a3 a4 x : Value} {T : TypeId} (h : W.heap[b]? = some (.cells #[a1, a2, a3, a4] T (0, 0))) : (W.setCell ⟨b, 3, none⟩ x).heap[b]? = some (.cells #[a1, a2, a3, x] T (0, 0)) := by
 simp [World.setCell, Array.getElem?_modify, h]
theorem OAt.box1 {a1 a2 a3 a4 : Value} {T : TypeId} (h : OAt gb mb nn B N g PA0 VA0 w (.cells #[a1, a2, a3, a4] T (0, 0)) o2 PA Pc VA Vc its vts Z) (hgw : gb < w.heap.size) (hmb : mb < gb) (hB : B ≤ mb) (hw1 : ∀ k, ownA PA0 = some k → k < w.heap.size) (hw2 : ∀ k, ownA VA0 = some k → k < w.heap.size) (v : Value) :
  OAt gb mb nn B N g PA0 VA0 w (.cells #[a1, a2, a3, v] T (0, 0)) o2 PA Pc VA Vc its vts (Z.setCell ⟨w.heap.size, 3, none⟩ v) := by
 have hk : ∀ k, k ≠ w.heap.size → (Z.setCell ⟨w.heap.size, 3, none⟩ v).heap[k]? = Z.heap[k]? := fun k hk => Below.heap_setCell _ _ _ _ hk;refine ⟨h.gen.keep (by simp [World.setCell]) (fun k _ hor => hk k ?_), qnm h.b1, (hk _ (by omega)).trans h.b2, (hk _ (by omega)).trans h.b3, h.bel.setCell (by show gb ≤ w.heap.size; omega) _, fun k hk' e1 e2 e3 => (hk k (by omega)).trans (h.old k hk' e1 e2 e3), h.own1, h.own2⟩;rcases hor with h3 | h3 | h3 | h3 | h3
 ·omega
 ·omega
 ·omega
 ·rcases h.own1 k h3 with h4 | h4
  ·have := hw1 k h4; omega
  ·omega
 ·rcases h.own2 k h3 with h4 | h4
  ·have := hw2 k h4; omega
  ·omega
def KidF (B base : Nat) (PA VA : Option Addr) (b : Nat) : Prop := b < B ∨ (base ≤ b ∧ ownA PA ≠ some b ∧ ownA VA ≠ some b)
theorem rowT_call {base k n cap : Nat} {cur : List It} (hr : RowT Z base (KidF B base PA VA) (.slice (some ⟨k, 0, none⟩) n cap) cur) {r : Tm} {A : Option Addr} {c : Nat} (hf : OfAt gb mb nn B N g' r A c PA VA Z PA' Pc' VA' Vc' its' vts' Z')
  (hg : gb < base) (hB : B ≤ gb) (h1 : ownA PA ≠ some k) (h2 : ownA VA ≠ some k) (hP : ∀ b, ownA PA = some b → gb < b) (hV : ∀ b, ownA VA = some b → gb < b) : RowT Z' base (KidF B base PA' VA') (.slice (some ⟨k, 0, none⟩) n cap) cur := by
 have hk := hr.lt k rfl;refine qb8 hr hf.size (fun b e => ?_) (fun b hb hlt _ => ?_)
 ·have e : some k = some b := e;injection e with e;subst e;exact hf.old _ hk.2 (by omega) h1 h2
 ·rcases hb with hb | ⟨hb, e1, e2⟩
  ·exact ⟨.inl hb, hf.old b hlt (by omega) (fun e => by have := hP b e; omega) (fun e => by have := hV b e; omega)⟩
  ·refine ⟨.inr ⟨hb, fun e => ?_, fun e => ?_⟩, hf.old b hlt (by omega) e1 e2⟩
   ·rcases hf.own1 b e with h3 | h3
    ·exact e1 h3
    ·omega
   ·rcases hf.own2 b e with h3 | h3
    ·exact e2 h3
    ·omega
theorem gens_take (N : List ByteArray) {l m : List Tm} (g : Gs) (hl : l.length = m.length) (i : Nat) (hi : i < l.length) :
  Tm.gens N (l.take (i + 1)) (m.take (i + 1)) g = ((Tm.gens N (l.take i) (m.take i) g).1 ++ [(l[i].gen N (m[i]'(by omega)) (Tm.gens N (l.take i) (m.take i) g).2).1], (l[i].gen N (m[i]'(by omega)) (Tm.gens N (l.take i) (m.take i) g).2).2) := by
 rw [List.take_succ_eq_append_getElem hi, List.take_succ_eq_append_getElem (show i < m.length by omega), qhi _ _ _ _ _ _ (by simp; omega)]
theorem qcq : ∀ (l : List Tm) (i : Nat) (h : i < l.length), Tm.sizes (l.take i) + l[i].size ≤ Tm.sizes l
 | t :: l, 0, _ => by simp [Tm.sizes]
 | t :: l, i + 1, h => by
  rw [List.take_succ_cons, Tm.sizes, Tm.sizes];have := qcq l i (by simpa using h);simp only [List.getElem_cons_succ];omega
theorem take_set {α : Type} (l : List α) (i : Nat) (h : i < l.length) (x : α) : (l.set i x).take (i + 1) = l.take i ++ [x] := by
 rw [List.take_succ_eq_append_getElem (by simpa using h), List.getElem_set_self, List.take_set_of_le (Nat.le_refl _)]
end
theorem RowT.toS2 {w : World} {base : Nat} {F P : Nat → Prop} {v : Value} {its : List It} (h : RowT w base F v its) (hF : ∀ b, F b → b < w.heap.size → v.ownBlock ≠ Option.some b → P b) (hP : ∀ b, v.ownBlock = Option.some b → P b) :
  ∃ A cap, v = .slice A its.length cap ∧ RepS w P (its.map (·.1)) A cap := by
 rcases h.own.2 with ⟨rfl, h0⟩ | ⟨g, cap, cur, rfl, hb, hg, hnc, hcm, r⟩
 ·have : its = [] := List.eq_nil_of_length_eq_zero h0;subst this;exact ⟨none, 0, rfl, by simp, by simp [maxLen], .inl rfl⟩
 ·refine ⟨Option.some ⟨g, 0, none⟩, cap, rfl, by simpa using hnc, hcm, .inr ⟨g, 0, rfl, hP g rfl, ?_⟩⟩;refine qao.of_its its g 0 (fun j u hj => ?_) (fun x hx => ?_)
  ·have := h.own.cells (g := g) rfl j u hj;simpa [Addr.add] using (by
    unfold Addr.add at this
    split at this <;> simp_all)
  ·exact RepP.mono (fun b ⟨h1, h2, h3⟩ => hF b h1 h2 h3) (fun _ _ => rfl) _ _ _ (h.reps x hx)
end Go.Proofs.YtpjmdilpldaapaaGreatDoor
