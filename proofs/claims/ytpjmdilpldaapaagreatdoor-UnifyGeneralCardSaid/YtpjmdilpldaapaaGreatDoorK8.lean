/- Urow, Uclone, Uchange, Ukept (joined by shake.py). -/
import Derived.Test.YtpjmdilpldaapaaGreatDoorK6
import Derived.Test.YtpjmdilpldaapaaGreatDoorK7
set_option maxRecDepth 100000
namespace Go.Proofs.YtpjmdilpldaapaaGreatDoor
open Go.RowKit Go.Sort
structure Elem8 (S T : TypeId) : Prop where
 und : Tryz.prog.underlying S = Option.some (.slice T)
 info : (Tryz.prog.info? T).map (fun i => (i.zero, i.size, i.bytes)) = Option.some (Option.some (.agg #[.int .i64 0, .string ⟨#[]⟩, .int .i64 0, .slice none 0 0, .int .i64 0, .string ⟨#[]⟩, .int .i64 0, .slice none 0 0]), 8, 112)
theorem qf8 : Elem8 54 53 := ⟨Tryz.underlying54, by kernel_rfl⟩
theorem qls : Elem8 27 48 := ⟨Tryz.underlying27, by kernel_rfl⟩
structure RowG (T : TypeId) (w : World) (base : Nat) (F : Nat → Prop) (v : Value) (its : List IB) : Prop where
 own : w.ownsRow base T 8 v its.length (bCells its)
 reps : ∀ x ∈ its, RepP w (fun b => F b ∧ b < w.heap.size ∧ v.ownBlock ≠ Option.some b) x.1.1 x.1.2.1 x.1.2.2 ∧ RepP w (fun b => F b ∧ b < w.heap.size ∧ v.ownBlock ≠ Option.some b) x.2.1 x.2.2.1 x.2.2.2
theorem RowG.bindB {w : World} {base : Nat} {F : Nat → Prop} {v : Value} {its : List IB} (h : RowG 48 w base F v its) : RowB w base F v its := ⟨h.own, h.reps⟩
section
variable {T : TypeId} {w w' : World} {base : Nat} {F : Nat → Prop} {v : Value} {its : List IB}
theorem RowG.nil (T : TypeId) (w : World) (base : Nat) (F : Nat → Prop) : RowG T w base F (.slice none 0 0) [] := ⟨World.ownsRow_nil _ _ _ _, by simp⟩
theorem RowG.keep (h : RowG T w base F v its) (hs : w.heap.size ≤ w'.heap.size)
  (hc : ∀ b, b < w.heap.size → (F b ∨ v.ownBlock = Option.some b) → w'.heap[b]? = w.heap[b]?) : RowG T w' base F v its := by
 refine ⟨⟨h.own.1, ?_⟩, fun x hx => ?_⟩
 ·rcases h.own.2 with hn | ⟨g, cap, cur, rfl, hb, hg, r⟩
  ·exact .inl hn
  ·have hlt : g < w.heap.size := (Array.getElem?_eq_some_iff.1 hg).1;exact .inr ⟨g, cap, cur, rfl, hb, by rw [hc g hlt (Or.inr rfl)]; exact hg, r⟩
 ·have key : ∀ (t : Tm) A c, RepP w (fun b => F b ∧ b < w.heap.size ∧ v.ownBlock ≠ Option.some b) t A c → RepP w' (fun b => F b ∧ b < w'.heap.size ∧ v.ownBlock ≠ Option.some b) t A c := fun t A c hr => by
   refine RepP.mono ?_ ?_ _ _ _ hr
   ·rintro b ⟨h1, h2, h3⟩; exact ⟨h1, by omega, h3⟩
   ·rintro p ⟨h1, h2, h3⟩; exact World.cell?_of_block (hc p.block h2 (Or.inl h1))
  exact ⟨key _ _ _ (h.reps x hx).1, key _ _ _ (h.reps x hx).2⟩
theorem RowG.below (h : RowG T w base F v its) (hb : Below w.heap.size w w') : RowG T w' base F v its :=
 h.keep hb.size (fun b hlt _ => hb.block b hlt)
theorem RowG.lt (h : RowG T w base F v its) : ∀ k, v.ownBlock = Option.some k → base ≤ k ∧ k < w.heap.size := h.own.lt
theorem RowG.toB {P : Nat → Prop} (h : RowG T w base F v its) (hF : ∀ b, F b → b < w.heap.size → v.ownBlock ≠ Option.some b → P b) (hP : ∀ b, v.ownBlock = Option.some b → P b) :
  ∃ A cap, v = .slice A its.length cap ∧ RepB w P (its.map IB.bd) A cap := by
 rcases h.own.2 with ⟨rfl, h0⟩ | ⟨g, cap, cur, rfl, hb, hg, hnc, hcm, r⟩
 ·have : its = [] := List.eq_nil_of_length_eq_zero h0;subst this;exact ⟨none, 0, rfl, by simp, by simp [maxLen], .inl rfl⟩
 ·refine ⟨Option.some ⟨g, 0, none⟩, cap, rfl, by simpa using hnc, hcm, .inr ⟨g, 0, rfl, hP g rfl, ?_⟩⟩;rw [← qfa];refine qao.of_its (bits its) g 0 (fun j u hj => ?_) (fun y hy => ?_)
  ·have := h.own.cells (g := g) rfl j u hj;simpa [Addr.add] using (by
    unfold Addr.add at this
    split at this <;> simp_all)
  ·obtain ⟨x, hx, e⟩ := qf6 hy;rcases e with rfl | rfl
   ·exact RepP.mono (fun b ⟨h1, h2, h3⟩ => hF b h1 h2 h3) (fun _ _ => rfl) _ _ _ (h.reps x hx).1
   ·exact RepP.mono (fun b ⟨h1, h2, h3⟩ => hF b h1 h2 h3) (fun _ _ => rfl) _ _ _ (h.reps x hx).2
theorem RowG.more {S : TypeId} (E : Elem8 S T) (hrow : RowG T w base F v its) (hbase : base ≤ w.heap.size) (news : List IB) (hne : 0 < news.length) (B off c : Nat)
  (hcells : ∀ j u, (bCells news)[j]? = Option.some u → w.cell? ⟨B, off + j, none⟩ = Option.some u)
  (hreps : ∀ x ∈ news, RepP w (fun b => F b ∧ b < w.heap.size ∧ v.ownBlock ≠ Option.some b) x.1.1 x.1.2.1 x.1.2.2 ∧ RepP w (fun b => F b ∧ b < w.heap.size ∧ v.ownBlock ≠ Option.some b) x.2.1 x.2.2.1 x.2.2.2) (hlen : its.length + news.length ≤ 100000000) :
  ∃ g cap w', (∀ ty, (Builtin.append_ #[S, S] ty #[v, .slice (Option.some ⟨B, off, none⟩) news.length c]).run Tryz.prog w = .ok (.slice (Option.some ⟨g, 0, none⟩) (its.length + news.length) cap) w') ∧
   RowG T w' base F (.slice (Option.some ⟨g, 0, none⟩) (its.length + news.length) cap) (its ++ news) ∧ w.grownBy w' v.ownBlock ∧ (v.ownBlock = Option.some g ∨ g = w.heap.size) := by
 obtain ⟨i0, hi0, hz0, hz1, hz2⟩ := info_parts E.info;obtain ⟨g, cap, w', h1, h2, h3, h4, h5⟩ := run_append_lies (P := Tryz.prog) w S 0 base T i0 _ 8 112 E.und hi0 hz0 hz1 hz2 rfl (by omega) v its.length (bCells its) hrow.own ⟨B, off, none⟩ news.length c (bCells news) (qbc _)
  (fun j u hu => by
   have h := hcells j u hu;unfold Addr.add
   split
   ·rename_i hj; subst hj; simpa using h
   ·exact h) (qee news) hne (by unfold maxLen; omega) (by omega) hbase w.heap.size rfl
 have hg : g = w.heap.size ∨ v.ownBlock = Option.some g := by rcases h4 with h | h; exact .inr h; exact .inl h
 refine ⟨g, cap, w', fun ty => h1, ⟨by rw [qcv, List.length_append]; exact h2, fun x hx => ?_⟩, h3, h4⟩;have key : ∀ (t : Tm) A c, RepP w (fun b => F b ∧ b < w.heap.size ∧ v.ownBlock ≠ Option.some b) t A c → RepP w' (fun b => F b ∧ b < w'.heap.size ∧ (Value.slice (Option.some ⟨g, 0, none⟩) (its.length + news.length) cap).ownBlock ≠ Option.some b) t A c := fun t A c hr => by
  refine RepP.mono ?_ ?_ _ _ _ hr
  ·rintro b ⟨k1, k2, k3⟩;refine ⟨k1, Nat.lt_of_lt_of_le k2 h3.size, fun e => ?_⟩;have e' : g = b := by injection e
   rcases hg with h | h
   ·omega
   ·rw [e'] at h; exact k3 h
  ·rintro p ⟨k1, k2, k3⟩;exact World.cell?_of_block (h3.block p.block k2 (fun e => k3 e.symm))
 rcases List.mem_append.1 hx with hx | hx
 ·exact ⟨key _ _ _ (hrow.reps x hx).1, key _ _ _ (hrow.reps x hx).2⟩
 ·exact ⟨key _ _ _ (hreps x hx).1, key _ _ _ (hreps x hx).2⟩
theorem RowG.more1 {S : TypeId} (E : Elem8 S T) (hrow : RowG T w base F v its) (hbase : base ≤ w.heap.size) (X : IB)
  (h1 : RepP w (fun b => F b ∧ b < w.heap.size ∧ v.ownBlock ≠ Option.some b) X.1.1 X.1.2.1 X.1.2.2) (h2 : RepP w (fun b => F b ∧ b < w.heap.size ∧ v.ownBlock ≠ Option.some b) X.2.1 X.2.2.1 X.2.2.2) (hlen : its.length + 1 ≤ 100000000) :
  ∃ g c' w', (∀ ty, (Builtin.append_ #[S, S] ty #[v, .slice (Option.some ⟨w.heap.size, 0, none⟩) 1 1]).run Tryz.prog (w.alloc (.cells #[.int .i64 X.1.1.kind, .string X.1.1.name, .int .i64 X.1.1.sort, .slice X.1.2.1 X.1.1.kids.length X.1.2.2, .int .i64 X.2.1.kind, .string X.2.1.name, .int .i64 X.2.1.sort, .slice X.2.2.1 X.2.1.kids.length X.2.2.2] T)) = .ok (.slice (Option.some ⟨g, 0, none⟩) (its.length + 1) c') w') ∧
   RowG T w' base F (.slice (Option.some ⟨g, 0, none⟩) (its.length + 1) c') (its ++ [X]) ∧ (∀ W0 B0, Below B0 W0 w → B0 ≤ base → Below B0 W0 w') ∧ (∀ k, k < w.heap.size → v.ownBlock ≠ Option.some k → w'.heap[k]? = w.heap[k]?) ∧ w.heap.size ≤ w'.heap.size ∧ (v.ownBlock = Option.some g ∨ w.heap.size ≤ g) := by
 obtain ⟨W6, hW6⟩ : ∃ W6, W6 = w.alloc (.cells (bCells [X]).toArray T) := ⟨_, rfl⟩;have hb6 : Below w.heap.size w W6 := by rw [hW6]; exact qaf (Nat.le_refl _) _
 have hs6 : W6.heap.size = w.heap.size + 1 := by rw [hW6]; simp
 have hx6 : W6.heap[w.heap.size]? = Option.some (.cells (bCells [X]).toArray T (0, 0)) := by rw [hW6]; exact heap_alloc_new _ _
 have key : ∀ (t : Tm) A c, RepP w (fun b => F b ∧ b < w.heap.size ∧ v.ownBlock ≠ Option.some b) t A c → RepP W6 (fun b => F b ∧ b < W6.heap.size ∧ v.ownBlock ≠ Option.some b) t A c := fun t A c h =>
  RepP.mono (fun b hb => ⟨hb.1, by have := hb.2.1; omega, hb.2.2⟩) (fun p hp => hb6.cell hp.2.1) _ _ _ h
 obtain ⟨g, cap, w', e1, e2, e3, e4⟩ := (hrow.below hb6).more E (by omega) [X] (by simp) w.heap.size 0 1 (fun j u hu => by
  rw [Nat.zero_add, cell_of_row W6 w.heap.size j _ _ _ hx6]; simpa using hu) (fun x hx => by
   rw [List.mem_singleton] at hx; subst hx; exact ⟨key _ _ _ h1, key _ _ _ h2⟩) hlen
 simp only [bCells, bits, itCells, Tm.cells, List.cons_append, List.nil_append] at hW6;rw [hW6] at e1;have hsz := e3.size;refine ⟨g, cap, w', e1, e2, fun W0 B0 hB hB0 => ?_, fun k hk hne => ?_, by omega, e4.imp id (fun h => by omega)⟩
 ·have hbs := hB.size;exact (hB.trans (hb6.mono (by omega))).grown e3 (by omega) (fun j e => by have := (hrow.lt _ e).1; omega)
 ·rw [e3.block k (by omega) (fun e => hne e.symm)];exact hb6.block k hk
theorem qlv : ∀ (its : List IB) (i : Nat) (h : i < its.length), (bits its)[2 * i]? = Option.some its[i].1 ∧ (bits its)[2 * i + 1]? = Option.some its[i].2
 | [], _, h => by simp at h
 | x :: r, 0, _ => by simp [bits]
 | x :: r, i + 1, h => by
  have g := qlv r i (by simpa using h);simp only [bits, show 2 * (i + 1) = 2 * i + 1 + 1 by omega, List.getElem?_cons_succ, List.getElem_cons_succ];exact g
theorem qir : ∀ (its : List IB) (i : Nat) (h : i < its.length) (X : It), (bits its).set (2 * i) X = bits (its.set i (X, its[i].2)) ∧ (bits its).set (2 * i + 1) X = bits (its.set i (its[i].1, X))
 | [], _, h, _ => by simp at h
 | x :: r, 0, _, X => by simp [bits]
 | x :: r, i + 1, h, X => by
  have g := qir r i (by simpa using h) X;simp only [bits, show 2 * (i + 1) = 2 * i + 1 + 1 by omega, List.set_cons_succ, List.getElem_cons_succ];exact ⟨by rw [g.1], by rw [g.2]⟩
theorem RowG.slot {g cap n : Nat} (h : RowG T w base F (.slice (Option.some ⟨g, 0, none⟩) n cap) its) (i : Nat) (hi : i < its.length) :
  (w.cell? ⟨g, i * 8, none⟩ = Option.some (.int .i64 its[i].1.1.kind) ∧ w.cell? ⟨g, i * 8 + 1, none⟩ = Option.some (.string its[i].1.1.name) ∧ w.cell? ⟨g, i * 8 + 2, none⟩ = Option.some (.int .i64 its[i].1.1.sort) ∧
   w.cell? ⟨g, i * 8 + 3, none⟩ = Option.some (.slice its[i].1.2.1 its[i].1.1.kids.length its[i].1.2.2)) ∧
  (w.cell? ⟨g, i * 8 + 4, none⟩ = Option.some (.int .i64 its[i].2.1.kind) ∧ w.cell? ⟨g, i * 8 + 4 + 1, none⟩ = Option.some (.string its[i].2.1.name) ∧ w.cell? ⟨g, i * 8 + 4 + 2, none⟩ = Option.some (.int .i64 its[i].2.1.sort) ∧
   w.cell? ⟨g, i * 8 + 4 + 3, none⟩ = Option.some (.slice its[i].2.2.1 its[i].2.1.kids.length its[i].2.2.2)) ∧ ∀ o, w.frozen? ⟨g, o, none⟩ = false := by
 have hc : ∀ j u, (bCells its)[j]? = Option.some u → w.cell? ⟨g, j, none⟩ = Option.some u := fun j u hj => by
  have := h.own.cells (g := g) rfl j u hj;unfold Addr.add at this
  split at this <;> simp_all
 obtain ⟨b0, b1⟩ := qlv its i hi;have hl := qdp its;have l0 : 2 * i < (bits its).length := by omega
 have l1 : 2 * i + 1 < (bits its).length := by omega
 rw [List.getElem?_eq_getElem l0] at b0;rw [List.getElem?_eq_getElem l1] at b1;injection b0 with b0;injection b1 with b1;have g0 := qcf (bits its) (2 * i) l0;have g1 := qcf (bits its) (2 * i + 1) l1;rw [b0, show 2 * i * 4 = i * 8 by omega] at g0;rw [b1, show (2 * i + 1) * 4 = i * 8 + 4 by omega] at g1;refine ⟨⟨hc _ _ g0.1, hc _ _ g0.2.1, hc _ _ g0.2.2.1, hc _ _ g0.2.2.2⟩, ⟨hc _ _ g1.1, hc _ _ g1.2.1, hc _ _ g1.2.2.1, hc _ _ g1.2.2.2⟩, fun o => ?_⟩;rcases h.own.2 with ⟨hv, _⟩ | ⟨g', cap', cur, hv, hb, hg, _⟩
 ·cases hv
 ·injection hv with h1;injection h1 with h1;injection h1 with h1;subst h1;simp [World.frozen?, hg]
theorem RowG.set0 {g cap n : Nat} (h : RowG T w base F (.slice (Option.some ⟨g, 0, none⟩) n cap) its) (hn : n = its.length) (i : Nat) (hi : i < its.length) (X : It) (hX : RepP w (fun b => F b ∧ b < w.heap.size ∧ g ≠ b) X.1 X.2.1 X.2.2) :
  RowG T ((((w.setCell ⟨g, i * 8, none⟩ (.int .i64 X.1.kind)).setCell ⟨g, i * 8 + 1, none⟩ (.string X.1.name)).setCell ⟨g, i * 8 + 2, none⟩ (.int .i64 X.1.sort)).setCell ⟨g, i * 8 + 3, none⟩ (.slice X.2.1 X.1.kids.length X.2.2))
   base F (.slice (Option.some ⟨g, 0, none⟩) n cap) (its.set i (X, its[i].2)) := by
 subst hn;have hown := own_set (own_set (own_set (own_set h.own (i * 8) (.int .i64 X.1.kind)) (i * 8 + 1) (.string X.1.name)) (i * 8 + 2) (.int .i64 X.1.sort)) (i * 8 + 3) (.slice X.2.1 X.1.kids.length X.2.2);have hl := qdp its;have e := itCells_set (bits its) (2 * i) X (by omega);rw [show 2 * i * 4 = i * 8 by omega, (qir its i hi X).1] at e;unfold bCells at hown;rw [e] at hown;refine ⟨by rw [List.length_set]; exact hown, fun x hx => ?_⟩;have key : ∀ (t : Tm) A c, RepP w (fun b => F b ∧ b < w.heap.size ∧ g ≠ b) t A c → RepP ((((w.setCell ⟨g, i * 8, none⟩ (.int .i64 X.1.kind)).setCell ⟨g, i * 8 + 1, none⟩ (.string X.1.name)).setCell ⟨g, i * 8 + 2, none⟩ (.int .i64 X.1.sort)).setCell ⟨g, i * 8 + 3, none⟩ (.slice X.2.1 X.1.kids.length X.2.2))
   (fun b => F b ∧ b < ((((w.setCell ⟨g, i * 8, none⟩ (.int .i64 X.1.kind)).setCell ⟨g, i * 8 + 1, none⟩ (.string X.1.name)).setCell ⟨g, i * 8 + 2, none⟩ (.int .i64 X.1.sort)).setCell ⟨g, i * 8 + 3, none⟩ (.slice X.2.1 X.1.kids.length X.2.2)).heap.size ∧ (Value.slice (Option.some ⟨g, 0, none⟩) its.length cap).ownBlock ≠ Option.some b) t A c := fun t A c hr => by
  refine RepP.mono ?_ ?_ _ _ _ hr
  ·rintro b ⟨h1, h2, h3⟩;exact ⟨h1, by simpa [World.setCell] using h2, fun e => h3 (by injection e)⟩
  ·rintro p ⟨h1, h2, h3⟩;have hq : ∀ o, (⟨g, o, none⟩ : Addr) ≠ p := fun o e => h3 (by rw [← e]);rw [World.cell?_setCell_other _ _ _ _ (hq _), World.cell?_setCell_other _ _ _ _ (hq _), World.cell?_setCell_other _ _ _ _ (hq _), World.cell?_setCell_other _ _ _ _ (hq _)]
 have old : ∀ (t : Tm) A c, RepP w (fun b => F b ∧ b < w.heap.size ∧ (Value.slice (Option.some ⟨g, 0, none⟩) its.length cap).ownBlock ≠ Option.some b) t A c → RepP w (fun b => F b ∧ b < w.heap.size ∧ g ≠ b) t A c := fun t A c hr =>
  RepP.mono (fun b ⟨h1, h2, h3⟩ => ⟨h1, h2, fun e => h3 (by rw [e]; rfl)⟩) (fun _ _ => rfl) _ _ _ hr
 rcases List.mem_or_eq_of_mem_set hx with hx | rfl
 ·exact ⟨key _ _ _ (old _ _ _ (h.reps x hx).1), key _ _ _ (old _ _ _ (h.reps x hx).2)⟩
 ·exact ⟨key _ _ _ (hX), key _ _ _ (old _ _ _ (h.reps its[i] (List.getElem_mem hi)).2)⟩
theorem RowG.set1 {g cap n : Nat} (h : RowG T w base F (.slice (Option.some ⟨g, 0, none⟩) n cap) its) (hn : n = its.length) (i : Nat) (hi : i < its.length) (X : It) (hX : RepP w (fun b => F b ∧ b < w.heap.size ∧ g ≠ b) X.1 X.2.1 X.2.2) :
  RowG T ((((w.setCell ⟨g, i * 8 + 4, none⟩ (.int .i64 X.1.kind)).setCell ⟨g, i * 8 + 4 + 1, none⟩ (.string X.1.name)).setCell ⟨g, i * 8 + 4 + 2, none⟩ (.int .i64 X.1.sort)).setCell ⟨g, i * 8 + 4 + 3, none⟩ (.slice X.2.1 X.1.kids.length X.2.2))
   base F (.slice (Option.some ⟨g, 0, none⟩) n cap) (its.set i (its[i].1, X)) := by
 subst hn;have hown := own_set (own_set (own_set (own_set h.own (i * 8 + 4) (.int .i64 X.1.kind)) (i * 8 + 4 + 1) (.string X.1.name)) (i * 8 + 4 + 2) (.int .i64 X.1.sort)) (i * 8 + 4 + 3) (.slice X.2.1 X.1.kids.length X.2.2);have hl := qdp its;have e := itCells_set (bits its) (2 * i + 1) X (by omega);rw [show (2 * i + 1) * 4 = i * 8 + 4 by omega, (qir its i hi X).2] at e;unfold bCells at hown;rw [e] at hown;refine ⟨by rw [List.length_set]; exact hown, fun x hx => ?_⟩;have key : ∀ (t : Tm) A c, RepP w (fun b => F b ∧ b < w.heap.size ∧ g ≠ b) t A c → RepP ((((w.setCell ⟨g, i * 8 + 4, none⟩ (.int .i64 X.1.kind)).setCell ⟨g, i * 8 + 4 + 1, none⟩ (.string X.1.name)).setCell ⟨g, i * 8 + 4 + 2, none⟩ (.int .i64 X.1.sort)).setCell ⟨g, i * 8 + 4 + 3, none⟩ (.slice X.2.1 X.1.kids.length X.2.2))
   (fun b => F b ∧ b < ((((w.setCell ⟨g, i * 8 + 4, none⟩ (.int .i64 X.1.kind)).setCell ⟨g, i * 8 + 4 + 1, none⟩ (.string X.1.name)).setCell ⟨g, i * 8 + 4 + 2, none⟩ (.int .i64 X.1.sort)).setCell ⟨g, i * 8 + 4 + 3, none⟩ (.slice X.2.1 X.1.kids.length X.2.2)).heap.size ∧ (Value.slice (Option.some ⟨g, 0, none⟩) its.length cap).ownBlock ≠ Option.some b) t A c := fun t A c hr => by
  refine RepP.mono ?_ ?_ _ _ _ hr
  ·rintro b ⟨h1, h2, h3⟩;exact ⟨h1, by simpa [World.setCell] using h2, fun e => h3 (by injection e)⟩
  ·rintro p ⟨h1, h2, h3⟩;have hq : ∀ o, (⟨g, o, none⟩ : Addr) ≠ p := fun o e => h3 (by rw [← e]);rw [World.cell?_setCell_other _ _ _ _ (hq _), World.cell?_setCell_other _ _ _ _ (hq _), World.cell?_setCell_other _ _ _ _ (hq _), World.cell?_setCell_other _ _ _ _ (hq _)]
 have old : ∀ (t : Tm) A c, RepP w (fun b => F b ∧ b < w.heap.size ∧ (Value.slice (Option.some ⟨g, 0, none⟩) its.length cap).ownBlock ≠ Option.some b) t A c → RepP w (fun b => F b ∧ b < w.heap.size ∧ g ≠ b) t A c := fun t A c hr =>
  RepP.mono (fun b ⟨h1, h2, h3⟩ => ⟨h1, h2, fun e => h3 (by rw [e]; rfl)⟩) (fun _ _ => rfl) _ _ _ hr
 rcases List.mem_or_eq_of_mem_set hx with hx | rfl
 ·exact ⟨key _ _ _ (old _ _ _ (h.reps x hx).1), key _ _ _ (old _ _ _ (h.reps x hx).2)⟩
 ·exact ⟨key _ _ _ (old _ _ _ (h.reps its[i] (List.getElem_mem hi)).1), key _ _ _ (hX)⟩
theorem qao.items {P : Nat → Prop} : ∀ {ps : List Bd} {b off : Nat}, qao w P (flat ps) b off → ∃ its : List IB, its.map IB.bd = ps ∧ (∀ j u, (bCells its)[j]? = Option.some u → w.cell? ⟨b, off + j, none⟩ = Option.some u) ∧
  ∀ x ∈ its, RepP w P x.1.1 x.1.2.1 x.1.2.2 ∧ RepP w P x.2.1 x.2.2.1 x.2.2.2
 | [], _, _, _ => ⟨[], rfl, fun j u h => by simp [bCells, bits, itCells] at h, by simp⟩
 | p :: r, b, off, h => by
  rw [flat, qao, qao] at h;obtain ⟨⟨A, c, k0, k1, k2, k3, hr1⟩, ⟨A', c', l0, l1, l2, l3, hr2⟩, h⟩ := h;obtain ⟨its, e, hc, hr⟩ := qao.items h;refine ⟨((p.1, A, c), (p.2, A', c')) :: its, by rw [List.map_cons, e]; rfl, fun j u hj => ?_, fun x hx => ?_⟩
  ·simp only [bCells, bits, itCells, Tm.cells, List.cons_append, List.nil_append] at hj
   match j with
   | 0 => simp at hj; subst hj; exact k0
   | 1 => simp at hj; subst hj; exact k1
   | 2 => simp at hj; subst hj; exact k2
   | 3 => simp at hj; subst hj; exact k3
   | 4 => simp at hj; subst hj; exact l0
   | 5 => simp at hj; subst hj; exact l1
   | 6 => simp at hj; subst hj; exact l2
   | 7 => simp at hj; subst hj; exact l3
   | j + 8 =>
    have := hc j u (by simpa [bCells] using hj);rw [show off + (j + 8) = off + 4 + 4 + j by omega]; exact this
  ·rcases List.mem_cons.1 hx with rfl | hx
   ·exact ⟨hr1, hr2⟩
   ·exact hr x hx
end
theorem rowG_copy {S T : TypeId} (E : Elem8 S T) {w : World} {base : Nat} {F : Nat → Prop} {v : Value} (hrow : RowG T w base F v []) (hF : ∀ b, F b → b < base) (hbase : base ≤ w.heap.size) (a : Addr) (c m : Nat) (news : List IB) (hm : m = news.length)
  (hc : ∀ j u, (bCells news)[j]? = some u → w.cell? (a.add j) = some u) (hN : ∀ x ∈ news, RepP w F x.1.1 x.1.2.1 x.1.2.2 ∧ RepP w F x.2.1 x.2.2.1 x.2.2.2) (hlen : m ≤ 100000000) (hne : v ≠ .slice none 0 0) :
  ∃ g c' w', (∀ ty, (Builtin.append_ #[S, S] ty #[v, .slice (some a) m c]).run Tryz.prog w = .ok (.slice (some ⟨g, 0, none⟩) m c') w') ∧
   RowG T w' base F (.slice (some ⟨g, 0, none⟩) m c') news ∧ w.grownBy w' v.ownBlock := by
 subst hm;obtain ⟨i0, hi0, hz0, hz1, hz2⟩ := info_parts E.info;obtain ⟨v', w', hr, ho, hg, hnil⟩ := run_append_own (P := Tryz.prog) w base S 0 T i0 _ 8 112 E.und hi0 hz0 hz1 hz2 rfl (by omega) v 0 [] hrow.own a news.length c (bCells news)
  (qbc news) hc (qee news) (by unfold maxLen; omega) (by omega) hbase
 rw [Nat.zero_add, List.nil_append] at ho;have hrow' : RowG T w' base F v' news := by
  refine ⟨ho, fun x hx => ?_⟩;have key : ∀ (t : Tm) A c, RepP w F t A c → RepP w' (fun b => F b ∧ b < w'.heap.size ∧ v'.ownBlock ≠ Option.some b) t A c := fun t A c hr => by
   refine RepP.mono ?_ ?_ _ _ _ hr
   ·intro k h1;have hk := hF k h1;refine ⟨h1, by have := hg.size; omega, fun e => ?_⟩;have := (ho.lt k e).1; omega
   ·intro p h1;have hk := hF p.block h1;exact World.cell?_of_block (hg.block p.block (by omega) (fun e => by have := (hrow.own.lt _ e.symm).1; omega))
  exact ⟨key _ _ _ (hN x hx).1, key _ _ _ (hN x hx).2⟩
 rcases ho.2 with ⟨rfl, h0⟩ | ⟨g, c', cur, rfl, _⟩
 ·exact absurd (hnil.1 rfl).1 hne
 ·exact ⟨g, c', w', fun ty => hr, hrow', hg⟩
def CloneP (P : Nat → Prop) (l : List Bd) (w : World) (e : Ending) (w' : World) : Prop :=
 Below w.heap.size w w' ∧ ∃ (A : Option Addr) (c : Nat) (its : List IB), e = .returned (.slice A l.length c) ∧ its.map IB.bd = l ∧ RowG 53 w' w.heap.size P (.slice A l.length c) its
set_option maxHeartbeats 2000000 in
theorem qmf (P : Nat → Prop) (l : List Bd) (A : Option Addr) (cap : Nat) (w : World) (hP : ∀ b, P b → b < w.heap.size) (hlen : l.length ≤ 1000000) (hrep : RepB w P l A cap) :
  Calls Tryz.prog 105 #[.slice A l.length cap] w (CloneP P l w) := by
 cases A with
 | none =>
  obtain rfl : l = [] := by
   rcases hrep.2.2 with h | ⟨b, off, h, _⟩
   ·exact h
   ·cases h
  have q22 : ∀ (w : World) (n c n' c' : Nat), (binOp .eql 54 (.slice none n c) (.slice none n' c')).run Tryz.prog w = .ok (.bool true) w := fun w n c n' c' => Lib.run_eql_slice_nil w _ _ none n c n' c' Tryz.underlying54;go_enter Tryz.func105, Tryz.ntmps105
  go_wp2_with fail
  go_ret
  exact ⟨Below.refl _ _, none, 0, [], rfl, rfl, RowG.nil _ _ _ _⟩
 | some a =>
  have q22 : ∀ (w : World) (n c n' c' : Nat), (binOp .eql 54 (.slice (some a) n c) (.slice none n' c')).run Tryz.prog w = .ok (.bool false) w := fun w n c n' c' => Lib.run_eql_slice_nil w _ _ (some a) n c n' c' Tryz.underlying54;obtain ⟨V, hV⟩ : ∃ V, V = w.alloc (.cells #[] 53) := ⟨_, rfl⟩;have hbV : Below w.heap.size w V := by rw [hV]; exact qaf (Nat.le_refl _) _
  have hrow : RowG 53 V w.heap.size P (.slice (some ⟨w.heap.size, 0, none⟩) 0 0) [] := by
   rw [hV]; exact ⟨World.ownsRow_made w #[] 0 (Nat.le_refl _) (by unfold maxLen; omega) rfl, by simp⟩
  obtain ⟨its, hits, hc, hN⟩ : ∃ its : List IB, its.map IB.bd = l ∧ (∀ j u, (bCells its)[j]? = some u → V.cell? (a.add j) = some u) ∧ (∀ x ∈ its, RepP V P x.1.1 x.1.2.1 x.1.2.2 ∧ RepP V P x.2.1 x.2.2.1 x.2.2.2) := by
   rcases hrep.2.2 with rfl | ⟨b, off, h, hbb, hl⟩
   ·exact ⟨[], rfl, by simp [bCells, bits, itCells], by simp⟩
   ·injection h with h; subst h;obtain ⟨its, h1, h2, h3⟩ := qao.items (w := V) (qao.mono (w' := V) (fun _ h => h) (fun p hp => hbV.cell (hP _ hp)) _ _ _ hbb hl);refine ⟨its, h1, fun j u hj => ?_, h3⟩;have := h2 j u hj;unfold Addr.add; split
    ·rename_i h; rw [h, Nat.add_zero] at this; exact this
    ·exact this
  have hil : its.length = l.length := by rw [← hits]; simp
  obtain ⟨g, c', w', hr, hrow', hg⟩ := rowG_copy qf8 hrow hP hbV.size a cap l.length its hil.symm hc hN (by omega) (by simp);have hV2 := hV;have HV := Lib.hid hV; clear hV;have HROW := Lib.hid hrow'; clear hrow';have hB : Below w.heap.size w w' := ⟨hg.os.trans hbV.os, hg.tape.trans hbV.tape, hg.output.trans hbV.output, Nat.le_trans hbV.size hg.size, fun b hb => (hg.block b (by have := hbV.size; omega) (fun e => by have e' := Option.some.inj e; simp only at e'; omega)).trans (hbV.block b hb)⟩;have HB := Lib.hid hB; clear hB hg hrow hc hN hrep;rw [HV.out] at hr;clear hV2 hbV;go_enter Tryz.func105, Tryz.ntmps105
  go_wp2_with (at_builtin; refine qak rfl _ _ rfl rfl rfl hr ?_)
  go_ret
  exact ⟨HB.out, _, _, its, rfl, hits, HROW.out⟩
theorem ql4 {W : World} {g o : Nat} {a b c d : Value} (e0 : W.cell? ⟨g, o, none⟩ = some a) (e1 : W.cell? ⟨g, o + 1, none⟩ = some b) (e2 : W.cell? ⟨g, o + 2, none⟩ = some c) (e3 : W.cell? ⟨g, o + 3, none⟩ = some d) (u : Tm) (A : Option Addr) (k : Nat) :
  let Z := (((W.setCell ⟨g, o, none⟩ (.int .i64 u.kind)).setCell ⟨g, o + 1, none⟩ (.string u.name)).setCell ⟨g, o + 2, none⟩ (.int .i64 u.sort)).setCell ⟨g, o + 3, none⟩ (.slice A u.kids.length k)
  Z.cell? ⟨g, o, none⟩ = some (.int .i64 u.kind) ∧ Z.cell? ⟨g, o + 1, none⟩ = some (.string u.name) ∧ Z.cell? ⟨g, o + 2, none⟩ = some (.int .i64 u.sort) ∧ Z.cell? ⟨g, o + 3, none⟩ = some (.slice A u.kids.length k) := by
 have x01 : (⟨g, o, none⟩ : Addr) ≠ ⟨g, o + 1, none⟩ := by simp
 have x02 : (⟨g, o, none⟩ : Addr) ≠ ⟨g, o + 2, none⟩ := by simp
 have x03 : (⟨g, o, none⟩ : Addr) ≠ ⟨g, o + 3, none⟩ := by simp
 have x12 : (⟨g, o + 1, none⟩ : Addr) ≠ ⟨g, o + 2, none⟩ := by simp
 have x13 : (⟨g, o + 1, none⟩ : Addr) ≠ ⟨g, o + 3, none⟩ := by simp
 have x23 : (⟨g, o + 2, none⟩ : Addr) ≠ ⟨g, o + 3, none⟩ := by simp
 refine ⟨?_, ?_, ?_, ?_⟩
 ·rw [World.cell?_setCell_other _ _ _ _ x03.symm, World.cell?_setCell_other _ _ _ _ x02.symm, World.cell?_setCell_other _ _ _ _ x01.symm];exact World.cell?_setCell_same _ _ _ e0
 ·rw [World.cell?_setCell_other _ _ _ _ x13.symm, World.cell?_setCell_other _ _ _ _ x12.symm];exact World.cell?_setCell_same _ _ _ (by rw [World.cell?_setCell_other _ _ _ _ x01]; exact e1)
 ·rw [World.cell?_setCell_other _ _ _ _ x23.symm];exact World.cell?_setCell_same _ _ _ (by rw [World.cell?_setCell_other _ _ _ _ x12, World.cell?_setCell_other _ _ _ _ x02]; exact e2)
 ·exact World.cell?_setCell_same _ _ _ (by rw [World.cell?_setCell_other _ _ _ _ x23, World.cell?_setCell_other _ _ _ _ x13, World.cell?_setCell_other _ _ _ _ x03]; exact e3)
def qcp (G : Nat → Prop) (u : Tm) (g o rb : Nat) (q : Bool) (w : World) (e : Ending) (w' : World) : Prop :=
 e = .returned (.tuple #[]) ∧ ∃ A c Y Z, Below w.heap.size w Y ∧ RepP Y (fun k => G k ∨ (w.heap.size ≤ k ∧ k < Y.heap.size)) u A c ∧
  Below Y.heap.size ((((Y.setCell ⟨g, o, none⟩ (.int .i64 u.kind)).setCell ⟨g, o + 1, none⟩ (.string u.name)).setCell ⟨g, o + 2, none⟩ (.int .i64 u.sort)).setCell ⟨g, o + 3, none⟩ (.slice A u.kids.length c)) Z ∧
  w' = Z.setCell ⟨rb, 0, none⟩ (.bool (q && decide (u.valid = 0)))
set_option maxHeartbeats 4000000 in
theorem qfn (mb yb rb nn : Nat) (G : Nat → Prop) (s : List Bd) (t : Tm) (A : Option Addr) (c : Nat) (g o : Nat) (q : Bool) (w : World) (hchk : t.check = 0) (hsz : t.size ≤ 1000000) (hps : (t.put s).size ≤ 1000000)
  (hG : ∀ k, G k → k < w.heap.size ∧ k ≠ g) (hy : w.heap[yb]? = some (.cells #[.map (some mb)] 62 (0, 0))) (hr : w.heap[rb]? = some (.cells #[.bool q] 4 (0, 0))) (hm : MapT w mb nn G s) (hgr : g ≠ rb) (hgl : g < w.heap.size)
  (hcell : w.cell? ⟨g, o, none⟩ = some (.int .i64 t.kind) ∧ w.cell? ⟨g, o + 1, none⟩ = some (.string t.name) ∧ w.cell? ⟨g, o + 2, none⟩ = some (.int .i64 t.sort) ∧ w.cell? ⟨g, o + 3, none⟩ = some (.slice A t.kids.length c)) (hf : ∀ o, w.frozen? ⟨g, o, none⟩ = false) (hrep : RepP w G t A c) :
  Calls Tryz.prog 104 #[.pointer (some ⟨g, o, none⟩), .pointer (some ⟨yb, 0, none⟩), .pointer (some ⟨rb, 0, none⟩)] w (qcp G (t.put s) g o rb q w) := by
 have mixed : Tryz.prog.follows .mixedOrders = true := by kernel_rfl
 obtain ⟨k0, k1, k2, k3⟩ := hcell;have hyl := (Array.getElem?_eq_some_iff.1 hy).1;have hrl := (Array.getElem?_eq_some_iff.1 hr).1;have y0 : w.drew.cell? ⟨yb, 0, none⟩ = some (.map (some mb)) := by show w.cell? _ = _; unfold World.cell?; rw [hy]; rfl
 have d0 : w.drew.cell? ⟨g, o, none⟩ = some (.int .i64 t.kind) := k0;have d1 : w.drew.cell? ⟨g, o + 1, none⟩ = some (.string t.name) := k1;have d2 : w.drew.cell? ⟨g, o + 2, none⟩ = some (.int .i64 t.sort) := k2;have d3 : w.drew.cell? ⟨g, o + 3, none⟩ = some (.slice A t.kids.length c) := k3;have CP := Lib.hid (uput_any mb nn G s 1000000 t A c w.drew hsz (Nat.le_refl _) hchk (fun k hk => (hG k hk).1) (hm.keep rfl fun _ _ => rfl) (RepP.mono (w := w) (w' := w.drew) (fun _ h => h) (fun _ _ => rfl) _ _ _ hrep));have hbd : Below w.heap.size w w.drew := (Below.refl _ _).drew;have hsd : w.drew.heap.size = w.heap.size := rfl;have hr' : w.drew.heap[rb]? = some (.cells #[.bool q] 4 (0, 0)) := hr;have hf' : ∀ o, w.drew.frozen? ⟨g, o, none⟩ = false := hf;have HG := Lib.hid hG; clear hG;have HR := Lib.hid hr'; clear hr' hr;obtain ⟨u, hu⟩ : ∃ u, u = t.put s := ⟨_, rfl⟩;rw [← hu] at hps CP ⊢
 clear hu hrep hm hf k0 k1 k2 k3 hy;simp only [Tm.val] at CP;go_enter Tryz.func104, Tryz.ntmps104
 go_wp2_with fail
 refine qbt (fun Y => Below w.drew.heap.size w.drew Y) 6 (.held 0 (.held 1 (.held 2 (.held 3 (.held 4 (.op 5 (.op 6 (.op 7 .nil)))))))) mixed (by kernel_rfl) ?_;generalize w.drew = Z at *;refine qaj (v := .pointer (some ⟨g, o, none⟩)) rfl rfl (fun _ _ _ h => h) (Below.refl _ _) (fun Y hY => by (try simp only [Act.put]); go_simp) ?_;refine qaj (v := .map (some mb)) rfl rfl (fun _ _ _ h => h) (Below.refl _ _) (fun Y hY => by
  have z0 := (hY.cell (p := ⟨yb, 0, none⟩) (by show yb < _; omega)).trans y0
  (try simp only [Act.put]); go_simp) ?_
 refine qaj (v := .pointer (some ⟨g, o, none⟩)) rfl rfl (fun _ _ _ h => h) (Below.refl _ _) (fun Y hY => by (try simp only [Act.put]); go_simp) ?_;refine qaj (v := .pointer (some ⟨g, o, none⟩)) rfl rfl (fun _ _ _ h => h) (Below.refl _ _) (fun Y hY => by (try simp only [Act.put]); go_simp) ?_;refine qaj (v := .agg #[.int .i64 t.kind, .string t.name, .int .i64 t.sort, .slice A t.kids.length c]) rfl rfl (fun _ _ _ h => h) (Below.refl _ _) (fun Y hY => by
  have z0 := (hY.cell (p := ⟨g, o, none⟩) (by show g < _; omega)).trans d0;have z1 := (hY.cell (p := ⟨g, o + 1, none⟩) (by show g < _; omega)).trans d1;have z2 := (hY.cell (p := ⟨g, o + 2, none⟩) (by show g < _; omega)).trans d2;have z3 := (hY.cell (p := ⟨g, o + 3, none⟩) (by show g < _; omega)).trans d3
  (try simp only [Act.put]); go_simp) ?_
 simp only [Act.put, List.setIfInBounds_toArray];refine mix_op rfl rfl (fun K hK => ?_);go_wp2_with fail
 refine CP.out.mono ?_; clear CP y0;rintro e w5 ⟨A5, c5, rfl, hrep, hbel⟩;refine hK _ _ ⟨fun _ => hbel, ?_⟩;clear hK K;have hs5 := hbel.size;have e0 := (hbel.cell (p := ⟨g, o, none⟩) (by show g < _; omega)).trans d0;have e1 := (hbel.cell (p := ⟨g, o + 1, none⟩) (by show g < _; omega)).trans d1;have e2 := (hbel.cell (p := ⟨g, o + 2, none⟩) (by show g < _; omega)).trans d2;have e3 := (hbel.cell (p := ⟨g, o + 3, none⟩) (by show g < _; omega)).trans d3;have ef : ∀ o, w5.frozen? ⟨g, o, none⟩ = false := fun o => (hbel.frozen (by show g < _; omega)).trans (hf' o);have HB5 := Lib.hid (qae hbd hbel (by omega)); clear hbd;have HR5 := Lib.hid ((hbel.block _ (by omega)).trans HR.out); clear HR;have HREP := Lib.hid hrep; clear hrep hbel d0 d1 d2 d3 hf';simp only [Tm.val];refine mix_op rfl rfl (fun K hK => ?_);go_wp2_with fail
 refine ⟨fun h => absurd h (by decide), ?_⟩;refine mix_op rfl rfl (fun K hK => ?_);go_wp2_with fail
 refine ⟨fun h => absurd h (by decide), qdx ?_⟩;obtain ⟨Z4, hZ4⟩ : ∃ Z4, Z4 = (((w5.setCell ⟨g, o, none⟩ (.int .i64 u.kind)).setCell ⟨g, o + 1, none⟩ (.string u.name)).setCell ⟨g, o + 2, none⟩ (.int .i64 u.sort)).setCell ⟨g, o + 3, none⟩ (.slice A5 u.kids.length c5) := ⟨_, rfl⟩;rw [← hZ4];have hs4 : Z4.heap.size = w5.heap.size := by rw [hZ4]; simp [World.setCell]
 have hblk : ∀ k, k ≠ g → Z4.heap[k]? = w5.heap[k]? := fun k hk => by
  rw [hZ4]; iterate 4 rw [Below.heap_setCell _ _ _ _ (by exact hk)]
 have hrb := (hblk rb (Ne.symm hgr)).trans HR5.out;have r0 : Z4.cell? ⟨rb, 0, none⟩ = some (.bool q) := by unfold World.cell?; rw [hrb]; rfl
 have rf : Z4.frozen? ⟨rb, 0, none⟩ = false := by unfold World.frozen?; rw [hrb]; rfl
 obtain ⟨n0, n1, n2, n3⟩ := ql4 e0 e1 e2 e3 u A5 c5;rw [← hZ4] at n0 n1 n2 n3;have VL : Hid (Calls Tryz.prog 44 #[u.val A5 c5] Z4 fun e w' => e = .returned (.int .i64 u.valid) ∧ Lay Z4.heap.size Z4 w') := Lib.hid (qds u A5 c5 Z4 hps (RepP.mono (fun k h => by
   rcases h with h | ⟨_, h⟩
   ·have := (HG.out k h).1; omega
   ·omega) (fun p h => World.cell?_of_block (hblk p.block (by
    rcases h with h | ⟨h, _⟩
    ·exact (HG.out _ h).2
    ·omega))) _ _ _ HREP.out))
 have HZ4 := Lib.hid hZ4; clear hZ4;have HRB := Lib.hid hrb; clear hrb hblk e0 e1 e2 e3 ef;simp only [Tm.val] at VL;unfold qcp
 cases q with
 | false =>
  go_wp2_with fail
  refine bodyPost_end (results_none Tryz.results104 _ _ _) rfl ?_;exact ⟨rfl, A5, c5, w5, Z4, HB5.out, by rw [← hsd]; exact HREP.out, by rw [← HZ4.out, ← hs4]; exact Below.refl _ _, by simp⟩
 | true =>
  obtain ⟨vu, hvu⟩ : ∃ v, v = u.valid := ⟨_, rfl⟩;rw [← hvu] at VL;have hvb : decide (u.valid = 0) = (vu == 0) := by rw [hvu, Bool.eq_iff_iff, decide_eq_true_iff, beq_iff_eq]
  have HVB := Lib.hid hvb;clear hvu hvb;go_wp2_with fail
  refine VL.out.mono ?_; clear VL n0 n1 n2 n3 r0 rf;rintro e w6 ⟨rfl, hl6⟩;have hrb6 := (hl6.below.block rb (by omega)).trans HRB.out;have r0 : w6.cell? ⟨rb, 0, none⟩ = some (.bool true) := by unfold World.cell?; rw [hrb6]; rfl
  have rf : w6.frozen? ⟨rb, 0, none⟩ = false := by unfold World.frozen?; rw [hrb6]; rfl
  have HL6 := Lib.hid hl6; clear hl6 hrb6;go_wp2_with fail
  refine bodyPost_end (results_none Tryz.results104 _ _ _) rfl ?_;exact ⟨rfl, A5, c5, w5, w6, HB5.out, by rw [← hsd]; exact HREP.out, by rw [← HZ4.out, ← hs4]; exact HL6.out.below, by rw [Bool.true_and, HVB.out]⟩
structure Kept (S : Nat → Prop) (w w' : World) : Prop where
 size : w.heap.size ≤ w'.heap.size
 same : ∀ b, b < w.heap.size → ¬ S b → w'.heap[b]? = w.heap[b]?
 os : w'.os = w.os
 tape : w'.tape = w.tape
 output : w'.output = w.output
theorem Kept.trans {S : Nat → Prop} {a b c : World} (h : Kept S a b) (k : Kept S b c) : Kept S a c :=
 ⟨Nat.le_trans h.size k.size, fun x hx hs => (k.same x (Nat.lt_of_lt_of_le hx h.size) hs).trans (h.same x hx hs), k.os.trans h.os, k.tape.trans h.tape, k.output.trans h.output⟩
theorem Kept.refl (S : Nat → Prop) (w : World) : Kept S w w := ⟨Nat.le_refl _, fun _ _ _ => rfl, rfl, rfl, rfl⟩
theorem Kept.mono {S S' : Nat → Prop} {w w' : World} (h : Kept S w w') (hS : ∀ b, S b → S' b) : Kept S' w w' := ⟨h.size, fun b hb hs => h.same b hb fun h => hs (hS b h), h.os, h.tape, h.output⟩
theorem Kept.below {S : Nat → Prop} {w w' : World} {B : Nat} (h : Kept S w w') (hB : B ≤ w.heap.size) (hS : ∀ b, b < B → ¬ S b) : Below B w w' :=
 ⟨h.os, h.tape, h.output, h.size, fun b hb => h.same b (Nat.lt_of_lt_of_le hb hB) (hS b hb)⟩
theorem Kept.cell {S : Nat → Prop} {w w' : World} (h : Kept S w w') {p : Addr} (hb : p.block < w.heap.size) (hS : ¬ S p.block) : w'.cell? p = w.cell? p := World.cell?_of_block (h.same _ hb hS)
theorem ql5 {W : World} {g o : Nat} {x y z v : Value} {k : Nat} (hk : k ≠ g) : ((((W.setCell ⟨g, o, none⟩ x).setCell ⟨g, o + 1, none⟩ y).setCell ⟨g, o + 2, none⟩ z).setCell ⟨g, o + 3, none⟩ v).heap[k]? = W.heap[k]? := by
 iterate 4 rw [Below.heap_setCell _ _ _ _ (by exact hk)]
theorem set4_size {W : World} {g o : Nat} {x y z v : Value} : ((((W.setCell ⟨g, o, none⟩ x).setCell ⟨g, o + 1, none⟩ y).setCell ⟨g, o + 2, none⟩ z).setCell ⟨g, o + 3, none⟩ v).heap.size = W.heap.size := by simp [World.setCell]
theorem qbj {W : World} {B : Nat} {a u : Value} {T : TypeId} (h : W.heap[B]? = some (.cells #[a] T (0, 0))) : (W.setCell ⟨B, 0, none⟩ u).heap[B]? = some (.cells #[u] T (0, 0)) := by
 simp [World.setCell, Array.getElem?_modify, h]
theorem qcp.kept {G : Nat → Prop} {u : Tm} {g o rb : Nat} {q : Bool} {w w' : World} {e : Ending} (h : qcp G u g o rb q w e w') (hrg : rb ≠ g) (hr : w.heap[rb]? = some (.cells #[.bool q] 4 (0, 0))) :
  Kept (fun b => b = g ∨ b = rb) w w' ∧ w'.heap[rb]? = some (.cells #[.bool (q && decide (u.valid = 0))] 4 (0, 0)) := by
 obtain ⟨-, A, c, Y, Z, h1, h2, h3, rfl⟩ := h;have hrl := (Array.getElem?_eq_some_iff.1 hr).1;have s1 := h1.size;have s3 := h3.size;rw [set4_size] at s3;have blk : ∀ k, k < w.heap.size → k ≠ g → Z.heap[k]? = w.heap[k]? := fun k hk hg => by
  rw [h3.block k (by omega), ql5 hg, h1.block k hk]
 refine ⟨⟨?_, fun b hb hs => ?_, ?_, ?_, ?_⟩, qbj ((blk rb hrl hrg).trans hr)⟩
 ·show w.heap.size ≤ (Z.setCell ⟨rb, 0, none⟩ (.bool (q && decide (u.valid = 0)))).heap.size;simp [World.setCell]; omega
 ·rw [Below.heap_setCell _ _ _ _ (by intro e; exact hs (.inr e))];exact blk b hb fun e => hs (.inl e)
 ·exact h3.os.trans h1.os
 ·exact h3.tape.trans h1.tape
 ·exact h3.output.trans h1.output
theorem qcp.row {T : TypeId} {base : Nat} {F G : Nat → Prop} {u : Tm} {g n cap i rb : Nat} {its : List IB} {q : Bool} {w w' : World} {e : Ending} (hrow : RowG T w base F (.slice (some ⟨g, 0, none⟩) n cap) its) (hn : n = its.length) (hi : i < its.length)
  (hGF : ∀ k, G k → F k ∧ k < w.heap.size ∧ k ≠ g) (hF : ∀ k, w.heap.size ≤ k → F k) (hrF : ¬ F rb) (hrg : rb ≠ g) :
  (qcp G u g (i * 8) rb q w e w' → ∃ A c, RowG T w' base F (.slice (some ⟨g, 0, none⟩) n cap) (its.set i ((u, A, c), its[i].2))) ∧
  (qcp G u g (i * 8 + 4) rb q w e w' → ∃ A c, RowG T w' base F (.slice (some ⟨g, 0, none⟩) n cap) (its.set i (its[i].1, (u, A, c)))) := by
 have hgl := (hrow.lt g rfl).2;have key : ∀ (its' : List IB) (Y Y4 Z : World), Below w.heap.size w Y → Y4.heap.size = Y.heap.size → RowG T Y4 base F (.slice (some ⟨g, 0, none⟩) n cap) its' → Below Y.heap.size Y4 Z → RowG T (Z.setCell ⟨rb, 0, none⟩ (.bool (q && decide (u.valid = 0)))) base F (.slice (some ⟨g, 0, none⟩) n cap) its' := fun its' Y Y4 Z h1 h2 h3 h4 => by
  have h5 : RowG T Z base F (.slice (some ⟨g, 0, none⟩) n cap) its' := h3.below (by rw [h2]; exact h4);refine h5.keep (by simp [World.setCell]) (fun b hb hor => Below.heap_setCell _ _ _ _ ?_);rintro rfl;rcases hor with h | h
  ·exact hrF h
  ·injection h with h; exact hrg h.symm
 have rep : ∀ (Y : World) (A : Option Addr) (c : Nat), Below w.heap.size w Y → RepP Y (fun k => G k ∨ (w.heap.size ≤ k ∧ k < Y.heap.size)) u A c → RepP Y (fun b => F b ∧ b < Y.heap.size ∧ g ≠ b) u A c := fun Y A c h1 h2 =>
  RepP.mono (fun k h => by
   have s := h1.size;rcases h with h | ⟨h3, h4⟩
   ·obtain ⟨a, b, d⟩ := hGF k h; exact ⟨a, by omega, fun e => d e.symm⟩
   ·exact ⟨hF k h3, h4, by omega⟩) (fun _ _ => rfl) _ _ _ h2
 constructor
 ·rintro ⟨-, A, c, Y, Z, h1, h2, h3, rfl⟩;exact ⟨A, c, key _ Y _ Z h1 set4_size ((hrow.below h1).set0 hn i hi (u, A, c) (rep Y A c h1 h2)) h3⟩
 ·rintro ⟨-, A, c, Y, Z, h1, h2, h3, rfl⟩;exact ⟨A, c, key _ Y _ Z h1 set4_size ((hrow.below h1).set1 hn i hi (u, A, c) (rep Y A c h1 h2)) h3⟩
end Go.Proofs.YtpjmdilpldaapaaGreatDoor
