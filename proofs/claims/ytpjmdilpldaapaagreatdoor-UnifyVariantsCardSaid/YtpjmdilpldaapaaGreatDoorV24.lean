/- Umatr (joined by shake.py). -/
import Derived.Test.YtpjmdilpldaapaaGreatDoorV15
import Derived.Test.YtpjmdilpldaapaaGreatDoorV23
set_option maxRecDepth 100000
namespace Go.Proofs.YtpjmdilpldaapaaGreatDoor
open Go.RowKit Go.Sort
set_option maxHeartbeats 1000000 in
theorem qm4 (x t : Tm) (A A' : Option Addr) (c c' : Nat) (w : World) :
  Calls Tryz.prog 54 #[x.val A c, t.val A' c'] w fun e w' => e = .returned (.bool (qfh x t)) ∧ Lay w.heap.size w w' := by
 obtain ⟨V, hV⟩ : ∃ V, V = (w.alloc (boxT x A c)).alloc (boxT t A' c') := ⟨_, rfl⟩;have h2 : Two w x t A A' c c' V := by rw [hV]; exact Two.new _ _ _ _ _ _ _
 obtain ⟨r, hr⟩ : ∃ r, r = qfh x t := ⟨_, rfl⟩;rw [← hr];unfold qfh at hr;have HL := Lib.hid h2.lay;clear h2;have HR := Lib.hid hr; clear hr;simp only [boxT] at hV;have HV := Lib.hid hV; clear hV;simp only [Tm.val];go_enter Tryz.func54, Tryz.ntmps54
 rcases eq_facts x.sort 0 with ⟨h0, e0, n0⟩ | ⟨h0, e0, n0⟩
 ·have hr : r = true := by rw [HR.out]; simp [h0]
  subst hr;clear h0 HR;go_wp2_with fail
  go_ret
  rw [← HV.out];exact ⟨rfl, HL.out⟩
 rcases eq_facts t.kind 3 with ⟨h1, e1, n1⟩ | ⟨h1, e1, n1⟩
 ·have hr : r = false := by rw [HR.out]; simp [h0, h1]
  subst hr;clear h0 h1 HR;go_wp2_with fail
  go_ret
  rw [← HV.out];exact ⟨rfl, HL.out⟩
 rcases eq_facts t.sort x.sort with ⟨h3, e3, n3⟩ | ⟨h3, e3, n3⟩
 ·have hr : r = true := by rw [HR.out]; simp [h1, h3]
  subst hr;clear h0 h1 h3 HR;go_wp2_with fail
  go_ret
  rw [← HV.out];exact ⟨rfl, HL.out⟩
 ·have hr : r = false := by rw [HR.out]; simp [h0, h3]
  subst hr;clear h0 h1 h3 HR;go_wp2_with fail
  go_ret
  rw [← HV.out];exact ⟨rfl, HL.out⟩
theorem qcj (t u : Tm) : t.same u = decide (t = u) := by rw [Bool.eq_iff_iff, Tm.same_iff, decide_eq_true_iff]
def qmr (base B : Nat) (r : List Bd × Bool) (own0 : Option Nat) (N : Nat) (w : World) (e : Ending) (w' : World) : Prop :=
 ∃ A c its, e = .returned (.tuple #[.slice A its.length c, .bool r.2]) ∧ its.map IB.bd = r.1 ∧ its.length ≤ N ∧ RowG 57 w' base (fun b => b < B) (.slice A its.length c) its ∧ Below base w w' ∧
  (∀ k, k < w.heap.size → own0 ≠ some k → w'.heap[k]? = w.heap[k]?) ∧ ∀ k, ownA A = some k → own0 = some k ∨ w.heap.size ≤ k
structure RAt (base B : Nat) (w : World) (own0 : Option Nat) (O : Option Addr) (oc : Nat) (its : List IB) (o1 o2 : Obj) (Z : World) : Prop where
 row : RowG 57 Z base (fun b => b < B) (.slice O its.length oc) its
 b1 : Z.heap[w.heap.size]? = some o1
 b2 : Z.heap[w.heap.size + 1]? = some o2
 bel : Below base w Z
 old : ∀ k, k < w.heap.size → own0 ≠ some k → Z.heap[k]? = w.heap[k]?
 own : ∀ k, ownA O = some k → own0 = some k ∨ w.heap.size + 2 ≤ k
section
variable {base B oc oc' : Nat} {w Z Z' : World} {own0 : Option Nat} {O O' : Option Addr} {its its' : List IB} {o1 o2 : Obj}
theorem RAt.lt (h : RAt base B w own0 O oc its o1 o2 Z) : w.heap.size + 2 ≤ Z.heap.size := (Array.getElem?_eq_some_iff.1 h.b2).1
theorem RAt.go (h : RAt base B w own0 O oc its o1 o2 Z) (hbw : base ≤ w.heap.size) (hb : Below Z.heap.size Z Z') : RAt base B w own0 O oc its o1 o2 Z' := by
 have hl := h.lt;exact ⟨h.row.below hb, (hb.block _ (by omega)).trans h.b1, (hb.block _ (by omega)).trans h.b2, h.bel.trans (hb.mono (by omega)), fun k hk hne => (hb.block k (by omega)).trans (h.old k hk hne), h.own⟩
theorem RAt.call (h : RAt base B w own0 O oc its o1 o2 Z) (ho0 : ∀ k, own0 = some k → k < w.heap.size) (hr : RowG 57 Z' base (fun b => b < B) (.slice O' its'.length oc') its') (hb : Below base Z Z') (ho : ∀ k, k < Z.heap.size → ownA O ≠ some k → Z'.heap[k]? = Z.heap[k]?) (hown : ∀ k, ownA O' = some k → ownA O = some k ∨ Z.heap.size ≤ k) :
  RAt base B w own0 O' oc' its' o1 o2 Z' := by
 have hl := h.lt;have n1 : ∀ k, w.heap.size ≤ k → k < w.heap.size + 2 → ownA O ≠ some k := fun k h1 h2 e => by
  rcases h.own k e with h3 | h3
  ·have := ho0 k h3; omega
  ·omega
 refine ⟨hr, (ho _ (by omega) (n1 _ (by omega) (by omega))).trans h.b1, (ho _ (by omega) (n1 _ (by omega) (by omega))).trans h.b2, h.bel.trans hb, fun k hk hne => (ho k (by omega) (fun e => ?_)).trans (h.old k hk hne), fun k e => ?_⟩
 ·rcases h.own k e with h3 | h3
  ·exact hne h3
  ·omega
 ·rcases hown k e with h3 | h3
  ·exact h.own k h3
  ·exact .inr (by omega)
theorem RAt.done (h : RAt base B w own0 O oc its o1 o2 Z) {r : List Bd × Bool} {N : Nat} (hr : its.map IB.bd = r.1) (hN : its.length ≤ N) : qmr base B r own0 N w (.returned (.tuple #[.slice O its.length oc, .bool r.2])) Z :=
 ⟨O, oc, its, rfl, hr, hN, h.row, h.bel, h.old, fun k e => (h.own k e).imp id (fun h => by omega)⟩
end
set_option maxHeartbeats 4000000 in
theorem qm2 (base B : Nat) (hBb : B ≤ base) (n : Nat) : ∀ (p t : Tm) (P T : Option Addr) (cp ct : Nat) (O : Option Addr) (oc : Nat) (its : List IB) (w : World), p.size ≤ n → p.valid = 0 → t.valid = 0 → its.length + p.size ≤ 1000000 → base ≤ w.heap.size →
   RowG 57 w base (fun b => b < B) (.slice O its.length oc) its → RepP w (fun b => b < B) p P cp → RepP w (fun b => b < B) t T ct →
  Calls Tryz.prog 49 #[p.val P cp, t.val T ct, .slice O its.length oc] w (qmr base B (p.col t (its.map IB.bd)) (ownA O) (its.length + p.size) w) := by
 have mixed : Tryz.prog.follows .mixedOrders = true := by kernel_rfl
 induction n with
 | zero => intro p _ _ _ _ _ _ _ _ _ h; have := p.size_pos; omega
 | succ n ih =>
  intro p t P T cp ct O oc its w hn hvp hvt hnn hbw hrow hrp hrt;have sp := qak hvp;have stt := qak hvt;have hs3 := qhy p;have hs1 := p.size_pos;have hoO : ∀ k, ownA O = some k → base ≤ k ∧ k < w.heap.size := fun k e => hrow.lt k (by rw [qbr]; exact e);obtain ⟨V, hV⟩ : ∃ V, V = (w.alloc (boxT p P cp)).alloc (boxT t T ct) := ⟨_, rfl⟩;have h2 : Two w p t P T cp ct V := by rw [hV]; exact Two.new w p t P T cp ct
  have hR : RAt base B w (ownA O) O oc its (boxT p P cp) (boxT t T ct) V := ⟨hrow.below h2.lay.below, h2.one, h2.two, h2.lay.below.mono hbw, fun k hk _ => h2.lay.below.block k hk, fun k e => .inl e⟩;have up : Hid (∀ (Z : World) (y : Tm) (Y : Option Addr) (cy : Nat), Below base w Z → w.heap.size ≤ Z.heap.size → RepP w (fun b => b < B) y Y cy → RepT Z Z.heap.size y Y cy) := Lib.hid fun Z y Y cy hZ hs h => RepP.mono (fun b (hb : b < B) => by show b < _; omega) (fun p (hp : p.block < B) => hZ.cell (by omega)) _ _ _ h;obtain ⟨r, hr⟩ : ∃ r, r = p.col t (its.map IB.bd) := ⟨_, rfl⟩;rw [← hr];rw [col_eq] at hr;obtain ⟨a0, a1, a2, a3, -⟩ := qah h2.one;obtain ⟨b0, b1, b2, b3, -⟩ := qah h2.two;have HR := Lib.hid hr;have HA := Lib.hid hR;have HRP := Lib.hid hrp;have HRT := Lib.hid hrt;have HVP := Lib.hid hvp;have HVT := Lib.hid hvt;have IH := Lib.hid ih;have HOO := Lib.hid hoO
  have ho0 : ∀ k, ownA O = some k → k < w.heap.size := fun k e => (hoO k e).2;have HO0 := Lib.hid ho0;simp only [boxT] at hV;have HV := Lib.hid hV;clear hr hR h2 hrow hrp hrt hvp hvt ih hoO ho0 hV;simp only [Tm.val];go_enter Tryz.func49, Tryz.ntmps49
  rcases eq_facts p.kind 1 with ⟨h0, e0, n0⟩ | ⟨h0, e0, n0⟩
  ·have HR2 := Lib.hid (HR.out.trans (if_pos h0)); clear HR IH h0;rw [HV.out] at a0 a1 a2 a3 b0 b1 b2 b3;go_wp2_with fail
   rw [← HV.out] at a0 a1 a2 a3 b0 b1 b2 b3 ⊢;refine qai (fun _ => True) (fun Y => ∀ q : Addr, q.block < V.drew.heap.size → ownA O ≠ some q.block → Y.cell? q = V.drew.cell? q) [] (.held 0 (.held 1 (.held 2 (.held 3 (.held 6 (.held 7 (.op 4 (.op 5 (.op 8 (.held 9 (.held 10 .nil))))))))))) mixed (by kernel_rfl) ?_;have HAD := Lib.hid (HA.out.go (Z' := V.drew) hbw (Below.refl _ _).drew);clear HV HA a0 a1 a2 a3 b0 b1 b2 b3;generalize V.drew = D at *;have hlD := HAD.out.lt;obtain ⟨a0, a1, a2, a3, -⟩ := qar p (HAD.out.b1);obtain ⟨b0, b1, b2, b3, -⟩ := qar t (HAD.out.b2);have nw : ∀ k, w.heap.size ≤ k → k < w.heap.size + 2 → k < D.heap.size ∧ ownA O ≠ some k := fun k hk hk2 => ⟨by omega, fun e => by have := HO0.out k e; omega⟩;refine qaa (v := .slice O its.length oc) rfl rfl rfl (fun _ _ _ h => h) trivial (fun _ _ _ => rfl) (fun Y _ hY => by
    (try simp only [Act.put]); go_simp) ?_
   refine qaa (v := .agg #[.int .i64 p.kind, .string p.name, .int .i64 p.sort, .slice P p.kids.length cp]) rfl rfl rfl (fun _ _ _ h => h) trivial (fun _ _ _ => rfl) (fun Y _ hY => by
    have z0 := (hY ⟨w.heap.size, 0, none⟩ (nw w.heap.size (Nat.le_refl _) (by omega)).1 (nw w.heap.size (Nat.le_refl _) (by omega)).2).trans a0;have z1 := (hY ⟨w.heap.size, 1, none⟩ (nw w.heap.size (Nat.le_refl _) (by omega)).1 (nw w.heap.size (Nat.le_refl _) (by omega)).2).trans a1;have z2 := (hY ⟨w.heap.size, 2, none⟩ (nw w.heap.size (Nat.le_refl _) (by omega)).1 (nw w.heap.size (Nat.le_refl _) (by omega)).2).trans a2;have z3 := (hY ⟨w.heap.size, 3, none⟩ (nw w.heap.size (Nat.le_refl _) (by omega)).1 (nw w.heap.size (Nat.le_refl _) (by omega)).2).trans a3
    (try simp only [Act.put]); go_simp) ?_
   refine qaa (v := .agg #[.int .i64 t.kind, .string t.name, .int .i64 t.sort, .slice T t.kids.length ct]) rfl rfl rfl (fun _ _ _ h => h) trivial (fun _ _ _ => rfl) (fun Y _ hY => by
    have z0 := (hY ⟨w.heap.size + 1, 0, none⟩ (nw (w.heap.size + 1) (by omega) (by omega)).1 (nw (w.heap.size + 1) (by omega) (by omega)).2).trans b0;have z1 := (hY ⟨w.heap.size + 1, 1, none⟩ (nw (w.heap.size + 1) (by omega) (by omega)).1 (nw (w.heap.size + 1) (by omega) (by omega)).2).trans b1;have z2 := (hY ⟨w.heap.size + 1, 2, none⟩ (nw (w.heap.size + 1) (by omega) (by omega)).1 (nw (w.heap.size + 1) (by omega) (by omega)).2).trans b2;have z3 := (hY ⟨w.heap.size + 1, 3, none⟩ (nw (w.heap.size + 1) (by omega) (by omega)).1 (nw (w.heap.size + 1) (by omega) (by omega)).2).trans b3
    (try simp only [Act.put]); go_simp) ?_
   refine qaa (v := .agg #[.int .i64 p.kind, .string p.name, .int .i64 p.sort, .slice P p.kids.length cp, .int .i64 t.kind, .string t.name, .int .i64 t.sort, .slice T t.kids.length ct]) rfl rfl rfl (fun _ _ _ h => h) trivial (fun _ _ _ => rfl) (fun Y _ hY => by
    (try simp only [Act.put]); go_simp) ?_
   refine qaa (v := .agg #[.int .i64 p.kind, .string p.name, .int .i64 p.sort, .slice P p.kids.length cp]) rfl rfl rfl (fun _ _ _ h => h) trivial (fun _ _ _ => rfl) (fun Y _ hY => by
    have z0 := (hY ⟨w.heap.size, 0, none⟩ (nw w.heap.size (Nat.le_refl _) (by omega)).1 (nw w.heap.size (Nat.le_refl _) (by omega)).2).trans a0;have z1 := (hY ⟨w.heap.size, 1, none⟩ (nw w.heap.size (Nat.le_refl _) (by omega)).1 (nw w.heap.size (Nat.le_refl _) (by omega)).2).trans a1;have z2 := (hY ⟨w.heap.size, 2, none⟩ (nw w.heap.size (Nat.le_refl _) (by omega)).1 (nw w.heap.size (Nat.le_refl _) (by omega)).2).trans a2;have z3 := (hY ⟨w.heap.size, 3, none⟩ (nw w.heap.size (Nat.le_refl _) (by omega)).1 (nw w.heap.size (Nat.le_refl _) (by omega)).2).trans a3
    (try simp only [Act.put]); go_simp) ?_
   refine qaa (v := .agg #[.int .i64 t.kind, .string t.name, .int .i64 t.sort, .slice T t.kids.length ct]) rfl rfl rfl (fun _ _ _ h => h) trivial (fun _ _ _ => rfl) (fun Y _ hY => by
    have z0 := (hY ⟨w.heap.size + 1, 0, none⟩ (nw (w.heap.size + 1) (by omega) (by omega)).1 (nw (w.heap.size + 1) (by omega) (by omega)).2).trans b0;have z1 := (hY ⟨w.heap.size + 1, 1, none⟩ (nw (w.heap.size + 1) (by omega) (by omega)).1 (nw (w.heap.size + 1) (by omega) (by omega)).2).trans b1;have z2 := (hY ⟨w.heap.size + 1, 2, none⟩ (nw (w.heap.size + 1) (by omega) (by omega)).1 (nw (w.heap.size + 1) (by omega) (by omega)).2).trans b2;have z3 := (hY ⟨w.heap.size + 1, 3, none⟩ (nw (w.heap.size + 1) (by omega) (by omega)).1 (nw (w.heap.size + 1) (by omega) (by omega)).2).trans b3
    (try simp only [Act.put]); go_simp) ?_
   simp only [Act.put, List.setIfInBounds_toArray];clear a0 a1 a2 a3 b0 b1 b2 b3;have low : ∀ b, b < B → b < B ∧ b < D.heap.size ∧ (Value.slice O its.length oc).ownBlock ≠ some b := fun b hb => ⟨hb, by omega, fun e => by rw [qbr] at e; have := (HOO.out b e).1; omega⟩;have hrpD : RepP D (fun b => b < B) p P cp := RepP.mono (fun _ h => h) (fun q (hq : q.block < B) => HAD.out.bel.cell (by omega)) _ _ _ HRP.out;have hrtD : RepP D (fun b => b < B) t T ct := RepP.mono (fun _ h => h) (fun q (hq : q.block < B) => HAD.out.bel.cell (by omega)) _ _ _ HRT.out;obtain ⟨g, c9, W9, hap, hrow9, hbel9, hk9, hs9, hg9⟩ := HAD.out.row.more1 elemRPair (by omega) ((p, P, cp), (t, T, ct)) (RepP.mono low (fun _ _ => rfl) _ _ _ hrpD) (RepP.mono low (fun _ _ => rfl) _ _ _ hrtD) (by omega);rw [qbr] at hg9
   have hk9' : ∀ k, k < D.heap.size → ownA O ≠ some k → W9.heap[k]? = D.heap[k]? := fun k hk hne => hk9 k hk (by rw [qbr]; exact hne);have HA9 := Lib.hid (HAD.out.call (O' := some ⟨g, 0, none⟩) (oc' := c9) (its' := its ++ [((p, P, cp), (t, T, ct))]) HO0.out (by rw [List.length_append]; exact hrow9) (hbel9 _ _ (Below.refl _ _) (Nat.le_refl _)) hk9' (fun k e => by
    have e : some g = some k := e;injection e with e;subst e;exact hg9))
   have s9 : ∀ q : Addr, q.block < D.heap.size → ownA O ≠ some q.block → W9.cell? q = D.cell? q := fun q hq hne => World.cell?_of_block (hk9' _ hq hne);dsimp only at hap;refine qac rfl rfl (fun K hK => ?_);go_wp2_with fail
   refine ⟨⟨fun _ => trivial, fun q hq _ => (qaf (Nat.le_refl D.heap.size) _).cell hq⟩, ?_⟩;refine qac rfl rfl (fun K hK => ?_);refine qat (by rfl) (.tmp 13) (.tmp 17) (by rfl) (by rfl) (by rfl) hap ?_;refine hK _ _ ⟨⟨fun _ => trivial, s9⟩, ?_⟩;clear hK K hap;have FI := qm4 p t P T cp ct W9;obtain ⟨q, hq⟩ : ∃ q, q = qfh p t := ⟨_, rfl⟩;rw [← hq] at FI HR2;simp only [Tm.val] at FI;have FI := Lib.hid FI;clear hq hrow9 hbel9 hk9 hg9 hk9' low hrpD hrtD;refine qac rfl rfl (fun K hK => ?_);go_wp2_with fail
   refine FI.out.mono ?_; clear FI;rintro e w5 ⟨rfl, hl5⟩;have s5 : ∀ q : Addr, q.block < D.heap.size → ownA O ≠ some q.block → w5.cell? q = D.cell? q := fun q hq hne => (hl5.below.cell (by omega)).trans (s9 q hq hne);refine hK _ _ ⟨⟨fun _ => trivial, s5⟩, ?_⟩;clear hK K;have HA5 := Lib.hid (HA9.out.go hbw hl5.below);clear HA9 hl5;refine qaa (v := .slice (some ⟨g, 0, none⟩) (its.length + 1) c9) rfl rfl rfl (fun _ _ _ h => h) trivial s5 (fun Y _ _ => by (try simp only [Act.put]); go_simp) ?_;refine qaa (v := .bool q) rfl rfl rfl (fun _ _ _ h => h) trivial s5 (fun Y _ _ => by (try simp only [Act.put]); go_simp) ?_;refine qaj ?_;clear s5 s9;go_wp2_with fail
   go_ret2
   have hd := HA5.out.done (r := (its.map IB.bd ++ [(p, t)], q)) (N := its.length + p.size) (by rw [List.map_append]; rfl) (by rw [List.length_append]; show its.length + 1 ≤ _; omega);rw [List.length_append] at hd;rw [HR2.out];exact hd
  have HR1 := Lib.hid (HR.out.trans (if_neg h0)); clear HR h0;rcases eq_facts p.kind 2 with ⟨h1, e1, n1⟩ | ⟨h1, e1, n1⟩
  ·have HR2 := Lib.hid (HR1.out.trans (if_pos h1)); clear HR1 IH h1;have SM := qbq p t P T cp ct V (by omega) (by omega) (up.out V _ _ _ HA.out.bel (by have := HA.out.lt; omega) HRP.out) (up.out V _ _ _ HA.out.bel (by have := HA.out.lt; omega) HRT.out);obtain ⟨q, hq⟩ : ∃ q, q = decide (p = t) := ⟨_, rfl⟩;rw [qcj, ← hq] at SM;rw [← hq] at HR2;simp only [Tm.val] at SM;have SM := Lib.hid SM;rw [HV.out] at a0 a1 a2 a3 b0 b1 b2 b3;clear hq;go_wp2_with fail
   rw [← HV.out]
   try go_wp2_with fail
   refine SM.out.mono ?_; clear SM a0 a1 a2 a3 b0 b1 b2 b3;rintro e w5 ⟨rfl, hl5⟩;have HA5 := Lib.hid (HA.out.go hbw hl5.below);clear HA hl5;go_wp2_with fail
   go_ret2
   rw [HR2.out];exact HA5.out.done (r := (its.map IB.bd, q)) rfl (by omega)
  have HR2 := Lib.hid (HR1.out.trans (if_neg h1)); clear HR1 h1;have AL := qmz p t P T cp ct V (by have := qbx p; omega) (by have := qbx t; omega);obtain ⟨qk, hqk⟩ : ∃ q, q = qbd p t := ⟨_, rfl⟩;rw [← hqk] at AL;simp only [Tm.val] at AL;have AL := Lib.hid AL;have HQK := Lib.hid hqk; clear hqk;rw [HV.out] at a0 a1 a2 a3 b0 b1 b2 b3;go_wp2_with fail
  rw [← HV.out]
  try go_wp2_with fail
  refine AL.out.mono ?_; clear AL a0 a1 a2 a3 b0 b1 b2 b3;rintro e w2 ⟨rfl, hl2⟩;have HA2 := Lib.hid (HA.out.go hbw hl2.below);clear HA hl2 HV
  cases qk with
  | false =>
   have hr := HR2.out.trans (if_neg (by rw [← HQK.out]; simp));have HR3 := Lib.hid hr;clear HR2 HQK IH hr;go_wp2_with fail
   go_ret2
   rw [HR3.out];exact HA2.out.done (r := (its.map IB.bd, false)) rfl (by omega)
  | true =>
  have HR3 := Lib.hid (HR2.out.trans (if_pos HQK.out.symm)); clear HR2;have hkl := (qbh.1 HQK.out.symm).2.2.2;have HKL := Lib.hid hkl; clear hkl HQK;have hkt := qbx p;clear e0 n0 e1 n1;go_wp2_with fail
  go_loopw [2, 8, 9] (fun v o a wr => ∃ (i : Nat) (ok : Bool) (O' : Option Addr) (oc' : Nat) (its' : List IB), a = .int .i64 i ∧ o = .bool ok ∧ v = .slice O' its'.length oc' ∧ i ≤ p.kids.length ∧ its'.length ≤ its.length + Tm.sizes (p.kids.take i) ∧
   Hid (Tm.cols p.kids t.kids (its.map IB.bd) = if ok = true then Tm.cols (p.kids.drop i) (t.kids.drop i) (its'.map IB.bd) else (its'.map IB.bd, false)) ∧ Hid (RAt base B w (ownA O) O' oc' its' (boxT p P cp) (boxT t T ct) wr)) (fun _ _ a _ => p.kids.length - (intOf a).toNat)
  case atStart => exact ⟨0, true, O, oc, its, rfl, rfl, rfl, Nat.zero_le _, by simp [Tm.sizes], (if_pos rfl).symm, HA2.out⟩
  case round =>
   clear HA2;obtain ⟨i, ok, O', oc', its', rfl, rfl, rfl, hi, hni, HE, HA⟩ := hrel;have i1 : (0 : Int) ≤ (i : Int) := Int.natCast_nonneg _;have hlr := HA.out.lt;obtain ⟨-, -, -, a3, -⟩ := qar p (HA.out.b1);by_cases hlt : i < p.kids.length
   rotate_left
   ·obtain rfl : i = p.kids.length := by omega
    have e0 : Tm.cols ([] : List Tm) [] (its'.map IB.bd) = (its'.map IB.bd, true) := by rw [Tm.cols]; simp
    have he := HE.out;rw [List.drop_length, List.drop_of_length_le (by have := HKL.out; omega), e0] at he;have hres : r = (its'.map IB.bd, ok) := by
     rw [HR3.out.trans he];cases ok <;> simp
    have HRES := Lib.hid hres;rw [List.take_length] at hni;clear he e0 hres HE HR3;go_wp2_with fail
    go_ret2
    rw [HRES.out];exact HA.out.done (r := (its'.map IB.bd, ok)) rfl (by omega)
   have i2 : (i : Int) < (p.kids.length : Int) := by omega
   cases ok with
   | false =>
    have hres := HR3.out.trans (HE.out.trans (if_neg (by simp)));have HRES := Lib.hid hres;have hsl : Tm.sizes (p.kids.take i) ≤ Tm.sizes p.kids := by have := qcq p.kids i hlt; omega
    clear hres HE HR3;go_wp2_with fail
    go_ret2
    rw [HRES.out];exact HA.out.done (r := (its'.map IB.bd, false)) rfl (by omega)
   | true =>
   have HE1 := Lib.hid (HE.out.trans (if_pos rfl)); clear HE;have hiu : i < t.kids.length := by have := HKL.out; omega
   rcases (qgl HRP.out).2.2.2 with h | ⟨pb, poff, hP, hpB, hpl⟩
   ·rw [h] at hlt; simp at hlt
   rcases (qgl HRT.out).2.2.2 with h | ⟨tb, toff, hT, htB, htl⟩
   ·rw [h] at hiu; simp at hiu
   subst hP hT;have HMD : Hid (RAt base B w (ownA O) O' oc' its' (boxT p (some ⟨pb, poff, none⟩) cp) (boxT t (some ⟨tb, toff, none⟩) ct) wr.drew) := HA.out.go hbw (Below.refl _ _).drew;have hlD : w.heap.size + 2 ≤ wr.drew.heap.size := HMD.out.lt;have i3 : (i : Int) < (t.kids.length : Int) := by omega
   clear HA hlr;go_wp2_with fail
   clear a3;refine qai (fun _ => True) (fun Y => ∀ q : Addr, q.block < wr.drew.heap.size → ownA O' ≠ some q.block → Y.cell? q = wr.drew.cell? q) [] (.held 0 (.held 1 (.held 2 (.held 3 (.held 4 (.held 5 (.held 6 (.held 7 (.held 8 (.held 9 (.held 10 (.op 11 (.held 12 (.held 13 (.held 14 (.held 15 (.held 16 .nil))))))))))))))))) mixed (by kernel_rfl) ?_;generalize wr.drew = D at *;have hpr : qao D (fun b => b < B) p.kids pb poff := qao.mono (fun _ h => h) (fun q (hq : q.block < B) => HMD.out.bel.cell (by omega)) _ _ _ hpB hpl;have htr : qao D (fun b => b < B) t.kids tb toff := qao.mono (fun _ h => h) (fun q (hq : q.block < B) => HMD.out.bel.cell (by omega)) _ _ _ htB htl;obtain ⟨Ai, ci, k0, k1, k2, k3, hri⟩ := hpr.get i hlt;obtain ⟨Aj, cj, l0, l1, l2, l3, hrj⟩ := htr.get i hiu;have hst := qcq p.kids i hlt;have hvy := qas HVP.out (List.getElem_mem hlt)
   have hvz := qas HVT.out (List.getElem_mem hiu);have hre := HE1.out;rw [List.drop_eq_getElem_cons hlt, List.drop_eq_getElem_cons hiu, Tm.cols] at hre;have hsk : Tm.sizes (p.kids.take (i + 1)) = Tm.sizes (p.kids.take i) + p.kids[i].size := by
    rw [List.take_succ_eq_append_getElem hlt, qbt, Tm.sizes, Tm.sizes]; rfl
   have hoO' : ∀ k, ownA O' = some k → base ≤ k := fun k e => (HMD.out.row.lt k (by rw [qbr]; exact e)).1;obtain ⟨y, hy⟩ : ∃ y, y = p.kids[i] := ⟨_, rfl⟩;obtain ⟨z, hz⟩ : ∃ z, z = t.kids[i] := ⟨_, rfl⟩;rw [← hy] at k0 k1 k2 k3 hri hst hvy hre hsk;rw [← hz] at l0 l1 l2 l3 hrj hvz hre;clear hy hz hpr htr hpl htl HE1;have CL := IH.out y z Ai Aj ci cj O' oc' its' D (by omega) hvy hvz (by omega) (by omega) HMD.out.row hri hrj;obtain ⟨q, hq⟩ : ∃ q, q = y.col z (its'.map IB.bd) := ⟨_, rfl⟩;rw [← hq] at CL hre;obtain ⟨q1, q2⟩ := q;simp only [Tm.val] at CL;have CL := Lib.hid CL;have HRE := Lib.hid hre;clear hq hre hvy hvz hri hrj;have hown := HMD.out.own;obtain ⟨-, -, -, a3, -⟩ := qar p (HMD.out.b1);obtain ⟨-, -, -, b3, -⟩ := qar t (HMD.out.b2);have nb : ∀ k, k < B → k < D.heap.size ∧ ownA O' ≠ some k := fun k hk => ⟨by omega, fun e => by have := hoO' k e; omega⟩
   have nw : ∀ k, w.heap.size ≤ k → k < w.heap.size + 2 → k < D.heap.size ∧ ownA O' ≠ some k := fun k hk hk2 => ⟨by omega, fun e => by rcases hown k e with h | h; have := HO0.out k h; omega; omega⟩;refine qaa (v := .pointer (some ⟨w.heap.size, 3, none⟩)) rfl rfl rfl (fun _ _ _ h => h) trivial (fun _ _ _ => rfl) (fun Y _ hY => by
     (try simp only [Act.put]); go_simp) ?_
   refine qaa (v := .slice (some ⟨pb, poff, none⟩) p.kids.length cp) rfl rfl rfl (fun _ _ _ h => h) trivial (fun _ _ _ => rfl) (fun Y _ hY => by
     have z3 := (hY ⟨w.heap.size, 3, none⟩ (nw w.heap.size (Nat.le_refl _) (by omega)).1 (nw w.heap.size (Nat.le_refl _) (by omega)).2).trans a3
     (try simp only [Act.put]); go_simp) ?_
   refine qaa (v := .int .i64 i) rfl rfl rfl (fun _ _ _ h => h) trivial (fun _ _ _ => rfl) (fun Y _ hY => by
     (try simp only [Act.put]); go_simp) ?_
   refine qaa (v := .pointer (some ⟨pb, poff + i * 4, none⟩)) rfl rfl rfl (fun _ _ _ h => h) trivial (fun _ _ _ => rfl) (fun Y _ hY => by
     (try simp only [Act.put]); go_simp) ?_
   refine qaa (v := .agg #[.int .i64 y.kind, .string y.name, .int .i64 y.sort, .slice Ai y.kids.length ci]) rfl rfl rfl (fun _ _ _ h => h) trivial (fun _ _ _ => rfl) (fun Y _ hY => by
     have z0 := (hY ⟨pb, poff + i * 4, none⟩ (nb pb hpB).1 (nb pb hpB).2).trans k0;have z1 := (hY ⟨pb, poff + i * 4 + 1, none⟩ (nb pb hpB).1 (nb pb hpB).2).trans k1;have z2 := (hY ⟨pb, poff + i * 4 + 2, none⟩ (nb pb hpB).1 (nb pb hpB).2).trans k2;have z3 := (hY ⟨pb, poff + i * 4 + 3, none⟩ (nb pb hpB).1 (nb pb hpB).2).trans k3
     (try simp only [Act.put]); go_simp) ?_
   refine qaa (v := .pointer (some ⟨w.heap.size + 1, 3, none⟩)) rfl rfl rfl (fun _ _ _ h => h) trivial (fun _ _ _ => rfl) (fun Y _ hY => by
     (try simp only [Act.put]); go_simp) ?_
   refine qaa (v := .slice (some ⟨tb, toff, none⟩) t.kids.length ct) rfl rfl rfl (fun _ _ _ h => h) trivial (fun _ _ _ => rfl) (fun Y _ hY => by
     have z3 := (hY ⟨w.heap.size + 1, 3, none⟩ (nw (w.heap.size + 1) (by omega) (by omega)).1 (nw (w.heap.size + 1) (by omega) (by omega)).2).trans b3
     (try simp only [Act.put]); go_simp) ?_
   refine qaa (v := .int .i64 i) rfl rfl rfl (fun _ _ _ h => h) trivial (fun _ _ _ => rfl) (fun Y _ hY => by
     (try simp only [Act.put]); go_simp) ?_
   refine qaa (v := .pointer (some ⟨tb, toff + i * 4, none⟩)) rfl rfl rfl (fun _ _ _ h => h) trivial (fun _ _ _ => rfl) (fun Y _ hY => by
     (try simp only [Act.put]); go_simp) ?_
   refine qaa (v := .agg #[.int .i64 z.kind, .string z.name, .int .i64 z.sort, .slice Aj z.kids.length cj]) rfl rfl rfl (fun _ _ _ h => h) trivial (fun _ _ _ => rfl) (fun Y _ hY => by
     have z0 := (hY ⟨tb, toff + i * 4, none⟩ (nb tb htB).1 (nb tb htB).2).trans l0;have z1 := (hY ⟨tb, toff + i * 4 + 1, none⟩ (nb tb htB).1 (nb tb htB).2).trans l1;have z2 := (hY ⟨tb, toff + i * 4 + 2, none⟩ (nb tb htB).1 (nb tb htB).2).trans l2;have z3 := (hY ⟨tb, toff + i * 4 + 3, none⟩ (nb tb htB).1 (nb tb htB).2).trans l3
     (try simp only [Act.put]); go_simp) ?_
   refine qaa (v := (.slice O' its'.length oc')) rfl rfl rfl (fun _ _ _ h => h) trivial (fun _ _ _ => rfl) (fun Y _ hY => by
     (try simp only [Act.put]); go_simp) ?_
   simp only [Act.put, List.setIfInBounds_toArray];clear a3 b3 k0 k1 k2 k3 l0 l1 l2 l3;refine qac rfl rfl (fun K hK => ?_);go_wp2_with fail
   refine CL.out.mono ?_; clear CL;rintro e w5 ⟨A5, c5, its5, rfl, hm5, hn5, hr5, hb5, ho5, hw5⟩;have hs5 : ∀ q : Addr, q.block < D.heap.size → ownA O' ≠ some q.block → w5.cell? q = D.cell? q := fun q hq hne => World.cell?_of_block (ho5 _ hq hne);refine hK _ _ ⟨⟨fun _ => trivial, hs5⟩, ?_⟩;clear hK K;have HM5 := Lib.hid (HMD.out.call HO0.out hr5 hb5 ho5 hw5);have HRE2 : Hid (Tm.cols p.kids t.kids (its.map IB.bd) = if q2 = true then Tm.cols (p.kids.drop (i + 1)) (t.kids.drop (i + 1)) (its5.map IB.bd) else (its5.map IB.bd, false)) := by rw [hm5]; exact HRE.out
   clear HMD hr5 hb5 ho5 hw5 hm5 HRE hown nb nw hoO';refine qaa (v := .tuple #[.slice A5 its5.length c5, .bool q2]) rfl rfl rfl (fun _ _ _ h => h) trivial hs5 (fun Y _ _ => by go_simp) ?_;refine qaa (v := .slice A5 its5.length c5) rfl rfl rfl (fun _ _ _ h => h) trivial hs5 (fun Y _ _ => by (try simp only [Act.put]); go_simp) ?_;refine qaa (v := .bool q2) rfl rfl rfl (fun _ _ _ h => h) trivial hs5 (fun Y _ _ => by (try simp only [Act.put]); go_simp) ?_;refine qaa (v := .slice A5 its5.length c5) rfl rfl rfl (fun _ _ _ h => h) trivial hs5 (fun Y _ _ => by (try simp only [Act.put]); go_simp) ?_;refine qaa (v := .bool q2) rfl rfl rfl (fun _ _ _ h => h) trivial hs5 (fun Y _ _ => by (try simp only [Act.put]); go_simp) ?_;refine qaj ?_;clear hs5;go_wp2_with fail
   go_roundw
   case rel => exact ⟨i + 1, q2, A5, c5, its5, by go_num, rfl, rfl, by omega, by omega, HRE2.out, HM5.out⟩
   case measure => simp [intOf]; omega
end Go.Proofs.YtpjmdilpldaapaaGreatDoor
