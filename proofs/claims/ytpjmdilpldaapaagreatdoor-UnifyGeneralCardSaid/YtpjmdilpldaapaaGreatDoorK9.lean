/- Ubind (joined by shake.py). -/
import Derived.Test.YtpjmdilpldaapaaGreatDoorK7
import Derived.Test.YtpjmdilpldaapaaGreatDoorK8
set_option maxRecDepth 100000
namespace Go.Proofs.YtpjmdilpldaapaaGreatDoor
open Go.RowKit Go.Sort
theorem qb8 {P : Program} {c : Code} {Q : Exit → Act → World → Prop} {a : Act} {w : World} (R : Act → Act → World → Prop) (h : c.wp P (fun e a' w' => e = .normal ∧ R a a' w') a w)
  (hr : ∀ a' w', R a a' w' → Q .normal a' w') : c.wp P Q a w :=
 Code.wp_mono (fun e a' w' ⟨h1, h2⟩ => by subst h1; exact hr a' w' h2) h
theorem qcu {W : World} {B : Nat} {a : Value} {T : TypeId} (h : W.heap[B]? = some (.cells #[a] T (0, 0))) : W.cell? ⟨B, 0, none⟩ = some a ∧ W.frozen? ⟨B, 0, none⟩ = false := by
 constructor <;> simp [World.cell?, World.frozen?, h]
theorem qci {W : World} {B : Nat} {a b : Value} {T : TypeId} (h : W.heap[B]? = some (.cells #[a, b] T (0, 0))) : W.cell? ⟨B, 0, none⟩ = some a ∧ W.cell? ⟨B, 1, none⟩ = some b ∧ ∀ o, W.frozen? ⟨B, o, none⟩ = false := by
 refine ⟨?_, ?_, fun o => ?_⟩ <;> simp [World.cell?, World.frozen?, h]
structure StV (xb : Nat) (ps bs : List Bd) (PA : Option Addr) (Pc : Nat) (BA : Option Addr) (Bc : Nat) (its : List IB) (w : World) : Prop where
 cell : w.heap[xb]? = some (.cells #[.slice PA ps.length Pc, .slice BA its.length Bc] 85 (0, 0))
 pairs : RepB w (fun b => b ≠ xb ∧ b < w.heap.size ∧ (Value.slice BA its.length Bc).ownBlock ≠ some b) ps PA Pc
 row : RowG 48 w (xb + 1) (fun b => b ≠ xb) (.slice BA its.length Bc) its
 is : its.map IB.bd = bs
def StU (xb : Nat) (ps bs : List Bd) (w : World) : Prop := ∃ PA Pc BA Bc its, StV xb ps bs PA Pc BA Bc its w
theorem qcj {w w' : World} {o : Oper} {a : Act} {K : Act → World → Prop} {Q : Exit → Act → World → Prop} {m k x : Value} (_hgd : o.guard = none) (t : TypeId) (om ok ox : Operand)
  (ho : o.op = .insert t om ok ox) (hm : a.eval om = m) (hk : a.eval ok = k) (hx : a.eval ox = x) (hrun : (Instr.mapUpdate t m k x).run Tryz.prog w = .ok () w') (h : K (a.put o.dst undef) w') : Oper.wp Tryz.prog o a w K Q := by
 unfold Oper.wp;simp [execOp, ho, hm, hk, hx, hrun, Result.andThen];exact h
theorem qde {w : World} {o : Oper} {a : Act} {K : Act → World → Prop} {Q : Exit → Act → World → Prop} (_hgd : o.guard = none) (t : TypeId) (ho : o.op = .makeMap t none)
  (h : K (a.put o.dst (.map (some w.heap.size))) (w.alloc (.map #[] 0))) : Oper.wp Tryz.prog o a w K Q := by
 unfold Oper.wp;simp [execOp, ho, run_makeMap, Result.andThen];exact h
theorem qmh (a : List Bd) (b : Bd) : okP (a ++ [b]) = (okP a && (decide (b.1.valid = 0) && decide (b.2.valid = 0))) := by
 unfold okP; rw [List.all_append]; simp
theorem qag {w w' : World} {o : Oper} {a : Act} {K : Act → World → Prop} {Q : Exit → Act → World → Prop} {v u v' : Value} {t : TypeId} (_hgd : o.guard = none) (s x : Operand)
  (ho : o.op = .call { callee := .builtin .append, args := #[s, x], argTypes := #[t, t] }) (hs : a.eval s = v) (hx : a.eval x = u) (hrun : ∀ ty, (Builtin.append_ #[t, t] ty #[v, u]).run Tryz.prog w = .ok v' w') (h : K (a.put o.dst v') w') : Oper.wp Tryz.prog o a w K Q := by
 unfold Oper.wp;simp [execOp, ho, resolve, invoke, builtin, hs, hx, hrun, Result.andThen];exact h
theorem heap_two {W : World} {B : Nat} {a b x y : Value} {T : TypeId} (h : W.heap[B]? = some (.cells #[a, b] T (0, 0))) : ((W.setCell ⟨B, 0, none⟩ x).setCell ⟨B, 1, none⟩ y).heap[B]? = some (.cells #[x, y] T (0, 0)) := by
 simp [World.setCell, Array.getElem?_modify, h]
theorem mapOne {W : World} {mb n : Nat} {G : Nat → Prop} {v t : Tm} {A : Option Addr} {c : Nat} (hk1 : v.kind = 1) (hk2 : v.kids = []) (h : qba W mb n (fun y => if y.name = v.name ∧ y.sort = v.sort then some (t.val A c) else none)) (hr : RepP W G t A c) : MapT W mb n G [(v, t)] := by
 refine ⟨_, h, fun x k1 k2 _ => ?_⟩;have he : (v = x) ↔ (x.name = v.name ∧ x.sort = v.sort) := by
  obtain ⟨a1, a2, a3, a4⟩ := v;obtain ⟨b1, b2, b3, b4⟩ := x;have e1 : a1 = 1 := hk1;have e2 : a4 = [] := hk2;have e3 : b1 = 1 := k1;have e4 : b4 = [] := k2;subst e1 e2 e3 e4;constructor
  ·intro e; injection e with _ e1 e2 _; exact ⟨e1.symm, e2.symm⟩
  ·rintro ⟨e1, e2⟩;have e1 : b2 = a2 := e1;have e2 : b3 = a3 := e2;rw [e1, e2]
 by_cases e : v = x
 ·right;simp only [hasS, getS, if_pos e, if_pos (he.1 e)];exact ⟨trivial, A, c, rfl, hr⟩
 ·left;simp only [hasS, if_neg e, if_neg (fun h => e (he.2 h))];exact ⟨trivial, trivial⟩
set_option maxHeartbeats 4000000 in
theorem qis (xb : Nat) (v t : Tm) (A : Option Addr) (c : Nat) (A' : Option Addr) (c' : Nat) (ps bs : List Bd) (PA : Option Addr) (Pc : Nat) (BA : Option Addr) (Bc : Nat) (its : List IB) (w : World) (hS : StV xb ps bs PA Pc BA Bc its w)
  (hv : v.valid = 0) (hk : v.kind = 1) (ht : t.valid = 0) (hps : ∀ p ∈ ps, p.1.valid = 0 ∧ p.2.valid = 0) (hbs : ∀ b ∈ bs, b.1.valid = 0 ∧ b.1.kind = 1 ∧ b.2.valid = 0) (hpl : ps.length ≤ 1000000) (hbl : bs.length ≤ 1000000)
  (hrv : RepP w (fun b => b ≠ xb ∧ b < w.heap.size ∧ (Value.slice BA its.length Bc).ownBlock ≠ some b) v A c) (hrt : RepP w (fun b => b ≠ xb ∧ b < w.heap.size ∧ (Value.slice BA its.length Bc).ownBlock ≠ some b) t A' c') :
  Calls Tryz.prog 86 #[.pointer (some ⟨xb, 0, none⟩), v.val A c, t.val A' c'] w fun e w' => e = .returned (.int .i64 (if qc8 v t ps bs = true then 0 else 3)) ∧ StU xb (ps.map (putP v t)) (bs.map (putB v t) ++ [(v, t)]) w' ∧ Below xb w w' := by
 have mixed : Tryz.prog.follows .mixedOrders = true := by kernel_rfl
 obtain ⟨ec, hec⟩ : ∃ ec : Int, ec = (if qc8 v t ps bs = true then 0 else 3) := ⟨_, rfl⟩;rw [← hec];have HEC := Lib.hid hec; clear hec;obtain ⟨hkids, hkey⟩ := check_keyable (qay.1 hv).1 hk;obtain ⟨W2, hW2⟩ : ∃ W2, W2 = (w.alloc (boxT v A c)).alloc (boxT t A' c') := ⟨_, rfl⟩;have h2 : Two w v t A A' c c' W2 := by rw [hW2]; exact Two.new _ _ _ _ _ _ _
 have hxb := (Array.getElem?_eq_some_iff.1 hS.cell).1;have KY : Hid (∀ Z, Calls Tryz.prog 47 #[v.val A c] Z fun e w' => e = .returned (keyV v) ∧ Lay Z.heap.size Z w') := Lib.hid fun Z => qii v A c Z;have hs2 := h2.lay.size;have hlt2 := h2.lt;have H2 := Lib.hid h2;obtain ⟨a0, a1, a2, a3, -⟩ := qad (show W2.drew.heap[w.heap.size]? = _ from h2.one);obtain ⟨b0, b1, b2, b3, -⟩ := qad (show W2.drew.heap[w.heap.size + 1]? = _ from h2.two);have hsd : W2.drew.heap.size = W2.heap.size := rfl;simp only [boxT] at hW2;have HW2 := Lib.hid hW2; clear hW2;have HS := Lib.hid hS; clear hS;have HPS := Lib.hid hps; clear hps;have HBS := Lib.hid hbs; clear hbs;have HRV := Lib.hid hrv; clear hrv;have HRT := Lib.hid hrt; clear hrt;have hbd : Below W2.heap.size W2 W2.drew := (Below.refl _ _).drew;have HBD := Lib.hid hbd; clear hbd;have HK := Lib.hid hk; clear hk
 have HKI := Lib.hid hkids; clear hkids;clear h2;simp only [Tm.val] at KY ⊢;go_enter Tryz.func86, Tryz.ntmps86
 go_wp2_with fail
 rw [← HW2.out];refine qb8 (fun a0 a' w' => ∃ mb yb, a' = (((((a0.put (some 13) (.map (some mb))).put (some 14) (.agg #[.int .i64 v.kind, .string v.name, .int .i64 v.sort, .slice A v.kids.length c])).put (some 15) (keyV v)).put (some 16) (.agg #[.int .i64 t.kind, .string t.name, .int .i64 t.sort, .slice A' t.kids.length c'])).put (some 17) (.map (some mb))).put (some 7) (.pointer (some ⟨yb, 0, none⟩)) ∧
   w'.heap[yb]? = some (.cells #[.map (some mb)] 62 (0, 0)) ∧ qba w' mb 1 (fun y => if y.name = v.name ∧ y.sort = v.sort then some (t.val A' c') else none) ∧ Below W2.heap.size W2 w' ∧ W2.heap.size ≤ mb ∧ W2.heap.size ≤ yb) ?_ ?_
 ·have HB0 := HBD.out;have HSD := Lib.hid hsd; clear hsd;refine qg3 (fun Y => Below W2.drew.heap.size W2.drew Y) 7 (.held 1 (.held 3 (.three 0 2 6 (.two 2 6 (.two 4 6 (.held 5 (.op 6 (.op 7 .nil))) (.op 4 (.held 5 (.op 7 .nil)))) (.op 2 (.op 4 (.held 5 (.op 7 .nil))))) (.two 0 6 (.two 4 6 (.held 5 (.op 6 (.op 7 .nil))) (.op 4 (.held 5 (.op 7 .nil)))) (.op 0 (.op 4 (.held 5 (.op 7 .nil))))) (.two 0 2 (.op 2 (.op 4 (.held 5 (.op 7 .nil)))) (.op 0 (.op 4 (.held 5 (.op 7 .nil)))))))) mixed (by kernel_rfl) ?_;generalize W2.drew = W0 at *;refine qb4 (v := .agg #[.int .i64 v.kind, .string v.name, .int .i64 v.sort, .slice A v.kids.length c]) rfl rfl (fun _ _ _ h => nomatch h.1) (Below.refl _ _) (fun Y hY => by
   have z0 := (hY.cell (p := ⟨w.heap.size, 0, none⟩) (by show w.heap.size < _; have := HSD.out; omega)).trans a0;have z1 := (hY.cell (p := ⟨w.heap.size, 1, none⟩) (by show w.heap.size < _; have := HSD.out; omega)).trans a1;have z2 := (hY.cell (p := ⟨w.heap.size, 2, none⟩) (by show w.heap.size < _; have := HSD.out; omega)).trans a2;have z3 := (hY.cell (p := ⟨w.heap.size, 3, none⟩) (by show w.heap.size < _; have := HSD.out; omega)).trans a3
   (try simp only [Act.put]); go_simp) ?_
  refine qb4 (v := .agg #[.int .i64 t.kind, .string t.name, .int .i64 t.sort, .slice A' t.kids.length c']) rfl rfl (fun _ _ _ h => nomatch h.1) (Below.refl _ _) (fun Y hY => by
   have z0 := (hY.cell (p := ⟨w.heap.size + 1, 0, none⟩) (by show w.heap.size + 1 < _; have := HSD.out; omega)).trans b0;have z1 := (hY.cell (p := ⟨w.heap.size + 1, 1, none⟩) (by show w.heap.size + 1 < _; have := HSD.out; omega)).trans b1;have z2 := (hY.cell (p := ⟨w.heap.size + 1, 2, none⟩) (by show w.heap.size + 1 < _; have := HSD.out; omega)).trans b2;have z3 := (hY.cell (p := ⟨w.heap.size + 1, 3, none⟩) (by show w.heap.size + 1 < _; have := HSD.out; omega)).trans b3
   (try simp only [Act.put]); go_simp) ?_
  simp only [Act.put, List.setIfInBounds_toArray];refine qmm ?_ ?_ ?_
  ·skip
   refine qaw rfl rfl (fun K hK => ?_);refine qde (by rfl) 62 (by rfl) ?_;obtain ⟨M1, hM1⟩ : ∃ M1, M1 = W0.alloc (.map #[] 0) := ⟨_, rfl⟩;have hbM1 : Below W0.heap.size W0 M1 := by rw [hM1]; exact qaf (Nat.le_refl _) _
   have hsM1 : W0.heap.size < M1.heap.size := by rw [hM1]; simp
   have hmM1 : qba M1 W0.heap.size 0 (fun _ => none) := by rw [hM1]; exact qba.made _
   have hBM1 : Below W0.heap.size W0 M1 := qae (Below.refl W0.heap.size W0) hbM1 (Below.refl W0.heap.size W0).size;have hzM1 := hBM1.size;rw [← hM1];clear hM1;refine hK _ _ ⟨fun _ => hBM1, ?_⟩;clear hK K;simp only [Act.put];refine qe2 ?_ ?_
   ·skip
    refine qaw rfl rfl (fun K hK => ?_);go_wp2_with fail
    refine (KY.out M1).mono ?_;rintro e K2 ⟨rfl, hlK2⟩;have hBK2 : Below W0.heap.size W0 K2 := qae hBM1 hlK2.below hBM1.size;have hsK2 := hlK2.size;have hzK2 := hBK2.size;refine hK _ _ ⟨fun _ => hBK2, ?_⟩;clear hK K;have mm2 := hmM1.below hlK2.below.block;refine qe2 ?_ ?_
    ·skip
     obtain ⟨N3, hrun3, hmN3, htN3⟩ := mm2.store (by decide) hkey (t.val A' c');simp only [Tm.val] at hrun3;have hBN3 : Below W0.heap.size W0 N3 := hBK2.grown htN3.grown hBK2.size (fun j e => by injection e with e; omega);have hzN3 := hBN3.size;have hsN3 := htN3.grown.size;refine qaw rfl rfl (fun K hK => ?_);refine qcj (by rfl) 62 (.tmp 13) (.tmp 15) (.tmp 16) (by rfl) (by rfl) (by rfl) (by rfl) hrun3 ?_;refine hK _ _ ⟨fun _ => hBN3, ?_⟩;clear hK K;simp only [Act.put];refine qb4 (v := .map (some W0.heap.size)) rfl rfl (fun _ _ _ h => nomatch h.1) hBN3 (fun Y hY => by (try simp only [Act.put]); go_simp) ?_;simp only [Act.put, List.setIfInBounds_toArray];refine qaw rfl rfl (fun K hK => ?_);go_wp2_with fail
     obtain ⟨M5, hM5⟩ : ∃ M5, M5 = N3.alloc (.cells #[.map none] 62) := ⟨_, rfl⟩;have hbM5 : Below N3.heap.size N3 M5 := by rw [hM5]; exact qaf (Nat.le_refl _) _
     have hsM5 : N3.heap.size < M5.heap.size := by rw [hM5]; simp
     have mm5 := hmN3.below hbM5.block;have hyM5 : M5.heap[N3.heap.size]? = some (.cells #[.map none] 62 (0, 0)) := by rw [hM5]; exact heap_alloc_new _ _
     have hBM5 : Below W0.heap.size W0 M5 := qae hBN3 hbM5 hBN3.size;have hzM5 := hBM5.size;rw [← hM5];clear hM5;refine ⟨fun _ => hBM5, ?_⟩;obtain ⟨c6, f6⟩ := qcu hyM5;have q6 := qbj (u := .map (some W0.heap.size)) hyM5;refine qaw rfl rfl (fun K hK => ?_);go_wp2_with fail
     refine ⟨fun h => absurd h (by decide), qc9 ?_⟩;have hsd := HSD.out;refine ⟨rfl, W0.heap.size, N3.heap.size, rfl, q6, ?_, qae HB0 (hBM5.setCell (p := ⟨N3.heap.size, 0, none⟩) (by show W0.heap.size ≤ N3.heap.size; omega) _) HB0.size, by omega, by omega⟩;exact mm5.keep (Below.heap_setCell _ _ _ _ (by show W0.heap.size ≠ N3.heap.size; omega))
    ·skip
     refine qaw rfl rfl (fun K hK => ?_);go_wp2_with fail
     obtain ⟨M7, hM7⟩ : ∃ M7, M7 = K2.alloc (.cells #[.map none] 62) := ⟨_, rfl⟩;have hbM7 : Below K2.heap.size K2 M7 := by rw [hM7]; exact qaf (Nat.le_refl _) _
     have hsM7 : K2.heap.size < M7.heap.size := by rw [hM7]; simp
     have mm7 := mm2.below hbM7.block;have hyM7 : M7.heap[K2.heap.size]? = some (.cells #[.map none] 62 (0, 0)) := by rw [hM7]; exact heap_alloc_new _ _
     have hBM7 : Below W0.heap.size W0 M7 := qae hBK2 hbM7 hBK2.size;have hzM7 := hBM7.size;rw [← hM7];clear hM7;refine ⟨fun _ => hBM7, ?_⟩;obtain ⟨N8, hrun8, hmN8, htN8⟩ := mm7.store (by decide) hkey (t.val A' c');simp only [Tm.val] at hrun8;have hBN8 : Below W0.heap.size W0 N8 := hBM7.grown htN8.grown hBM7.size (fun j e => by injection e with e; omega);have hzN8 := hBN8.size;have hsN8 := htN8.grown.size;refine qaw rfl rfl (fun K hK => ?_);refine qcj (by rfl) 62 (.tmp 13) (.tmp 15) (.tmp 16) (by rfl) (by rfl) (by rfl) (by rfl) hrun8 ?_;refine hK _ _ ⟨fun _ => hBN8, ?_⟩;clear hK K;simp only [Act.put];have yy8 := (htN8.grown.block K2.heap.size (by omega) (fun e => by injection e with e; omega)).trans hyM7
     refine qb4 (v := .map (some W0.heap.size)) rfl rfl (fun _ _ _ h => nomatch h.1) hBN8 (fun Y hY => by (try simp only [Act.put]); go_simp) ?_;simp only [Act.put, List.setIfInBounds_toArray];obtain ⟨c10, f10⟩ := qcu yy8;have q10 := qbj (u := .map (some W0.heap.size)) yy8;refine qaw rfl rfl (fun K hK => ?_);go_wp2_with fail
     refine ⟨fun h => absurd h (by decide), qc9 ?_⟩;have hsd := HSD.out;refine ⟨rfl, W0.heap.size, K2.heap.size, rfl, q10, ?_, qae HB0 (hBN8.setCell (p := ⟨K2.heap.size, 0, none⟩) (by show W0.heap.size ≤ K2.heap.size; omega) _) HB0.size, by omega, by omega⟩;exact hmN8.keep (Below.heap_setCell _ _ _ _ (by show W0.heap.size ≠ K2.heap.size; omega))
   ·skip
    refine qaw rfl rfl (fun K hK => ?_);go_wp2_with fail
    obtain ⟨M11, hM11⟩ : ∃ M11, M11 = M1.alloc (.cells #[.map none] 62) := ⟨_, rfl⟩;have hbM11 : Below M1.heap.size M1 M11 := by rw [hM11]; exact qaf (Nat.le_refl _) _
    have hsM11 : M1.heap.size < M11.heap.size := by rw [hM11]; simp
    have mm11 := hmM1.below hbM11.block;have hyM11 : M11.heap[M1.heap.size]? = some (.cells #[.map none] 62 (0, 0)) := by rw [hM11]; exact heap_alloc_new _ _
    have hBM11 : Below W0.heap.size W0 M11 := qae hBM1 hbM11 hBM1.size;have hzM11 := hBM11.size;rw [← hM11];clear hM11;refine ⟨fun _ => hBM11, ?_⟩;refine qaw rfl rfl (fun K hK => ?_);go_wp2_with fail
    refine (KY.out M11).mono ?_;rintro e K12 ⟨rfl, hlK12⟩;have hBK12 : Below W0.heap.size W0 K12 := qae hBM11 hlK12.below hBM11.size;have hsK12 := hlK12.size;have hzK12 := hBK12.size;refine hK _ _ ⟨fun _ => hBK12, ?_⟩;clear hK K;have mm12 := mm11.below hlK12.below.block;have yy12 := (hlK12.below.block _ (by omega)).trans hyM11;obtain ⟨N13, hrun13, hmN13, htN13⟩ := mm12.store (by decide) hkey (t.val A' c');simp only [Tm.val] at hrun13;have hBN13 : Below W0.heap.size W0 N13 := hBK12.grown htN13.grown hBK12.size (fun j e => by injection e with e; omega);have hzN13 := hBN13.size;have hsN13 := htN13.grown.size;refine qaw rfl rfl (fun K hK => ?_);refine qcj (by rfl) 62 (.tmp 13) (.tmp 15) (.tmp 16) (by rfl) (by rfl) (by rfl) (by rfl) hrun13 ?_;refine hK _ _ ⟨fun _ => hBN13, ?_⟩;clear hK K;simp only [Act.put]
    have yy13 := (htN13.grown.block M1.heap.size (by omega) (fun e => by injection e with e; omega)).trans yy12;refine qb4 (v := .map (some W0.heap.size)) rfl rfl (fun _ _ _ h => nomatch h.1) hBN13 (fun Y hY => by (try simp only [Act.put]); go_simp) ?_;simp only [Act.put, List.setIfInBounds_toArray];obtain ⟨c15, f15⟩ := qcu yy13;have q15 := qbj (u := .map (some W0.heap.size)) yy13;refine qaw rfl rfl (fun K hK => ?_);go_wp2_with fail
    refine ⟨fun h => absurd h (by decide), qc9 ?_⟩;have hsd := HSD.out;refine ⟨rfl, W0.heap.size, M1.heap.size, rfl, q15, ?_, qae HB0 (hBN13.setCell (p := ⟨M1.heap.size, 0, none⟩) (by show W0.heap.size ≤ M1.heap.size; omega) _) HB0.size, by omega, by omega⟩;exact hmN13.keep (Below.heap_setCell _ _ _ _ (by show W0.heap.size ≠ M1.heap.size; omega))
  ·skip
   refine qaw rfl rfl (fun K hK => ?_);go_wp2_with fail
   refine (KY.out W0).mono ?_;rintro e K16 ⟨rfl, hlK16⟩;have hBK16 : Below W0.heap.size W0 K16 := qae (Below.refl W0.heap.size W0) hlK16.below (Below.refl W0.heap.size W0).size;have hsK16 := hlK16.size;have hzK16 := hBK16.size;refine hK _ _ ⟨fun _ => hBK16, ?_⟩;clear hK K;refine qe2 ?_ ?_
   ·skip
    refine qaw rfl rfl (fun K hK => ?_);refine qde (by rfl) 62 (by rfl) ?_;obtain ⟨M17, hM17⟩ : ∃ M17, M17 = K16.alloc (.map #[] 0) := ⟨_, rfl⟩;have hbM17 : Below K16.heap.size K16 M17 := by rw [hM17]; exact qaf (Nat.le_refl _) _
    have hsM17 : K16.heap.size < M17.heap.size := by rw [hM17]; simp
    have hmM17 : qba M17 K16.heap.size 0 (fun _ => none) := by rw [hM17]; exact qba.made _
    have hBM17 : Below W0.heap.size W0 M17 := qae hBK16 hbM17 hBK16.size;have hzM17 := hBM17.size;rw [← hM17];clear hM17;refine hK _ _ ⟨fun _ => hBM17, ?_⟩;clear hK K;simp only [Act.put];refine qe2 ?_ ?_
    ·skip
     obtain ⟨N18, hrun18, hmN18, htN18⟩ := hmM17.store (by decide) hkey (t.val A' c');simp only [Tm.val] at hrun18;have hBN18 : Below W0.heap.size W0 N18 := hBM17.grown htN18.grown hBM17.size (fun j e => by injection e with e; omega);have hzN18 := hBN18.size;have hsN18 := htN18.grown.size;refine qaw rfl rfl (fun K hK => ?_);refine qcj (by rfl) 62 (.tmp 13) (.tmp 15) (.tmp 16) (by rfl) (by rfl) (by rfl) (by rfl) hrun18 ?_;refine hK _ _ ⟨fun _ => hBN18, ?_⟩;clear hK K;simp only [Act.put];refine qb4 (v := .map (some K16.heap.size)) rfl rfl (fun _ _ _ h => nomatch h.1) hBN18 (fun Y hY => by (try simp only [Act.put]); go_simp) ?_;simp only [Act.put, List.setIfInBounds_toArray];refine qaw rfl rfl (fun K hK => ?_);go_wp2_with fail
     obtain ⟨M20, hM20⟩ : ∃ M20, M20 = N18.alloc (.cells #[.map none] 62) := ⟨_, rfl⟩;have hbM20 : Below N18.heap.size N18 M20 := by rw [hM20]; exact qaf (Nat.le_refl _) _
     have hsM20 : N18.heap.size < M20.heap.size := by rw [hM20]; simp
     have mm20 := hmN18.below hbM20.block;have hyM20 : M20.heap[N18.heap.size]? = some (.cells #[.map none] 62 (0, 0)) := by rw [hM20]; exact heap_alloc_new _ _
     have hBM20 : Below W0.heap.size W0 M20 := qae hBN18 hbM20 hBN18.size;have hzM20 := hBM20.size;rw [← hM20];clear hM20;refine ⟨fun _ => hBM20, ?_⟩;obtain ⟨c21, f21⟩ := qcu hyM20;have q21 := qbj (u := .map (some K16.heap.size)) hyM20;refine qaw rfl rfl (fun K hK => ?_);go_wp2_with fail
     refine ⟨fun h => absurd h (by decide), qc9 ?_⟩;have hsd := HSD.out;refine ⟨rfl, K16.heap.size, N18.heap.size, rfl, q21, ?_, qae HB0 (hBM20.setCell (p := ⟨N18.heap.size, 0, none⟩) (by show W0.heap.size ≤ N18.heap.size; omega) _) HB0.size, by omega, by omega⟩;exact mm20.keep (Below.heap_setCell _ _ _ _ (by show K16.heap.size ≠ N18.heap.size; omega))
    ·skip
     refine qaw rfl rfl (fun K hK => ?_);go_wp2_with fail
     obtain ⟨M22, hM22⟩ : ∃ M22, M22 = M17.alloc (.cells #[.map none] 62) := ⟨_, rfl⟩;have hbM22 : Below M17.heap.size M17 M22 := by rw [hM22]; exact qaf (Nat.le_refl _) _
     have hsM22 : M17.heap.size < M22.heap.size := by rw [hM22]; simp
     have mm22 := hmM17.below hbM22.block;have hyM22 : M22.heap[M17.heap.size]? = some (.cells #[.map none] 62 (0, 0)) := by rw [hM22]; exact heap_alloc_new _ _
     have hBM22 : Below W0.heap.size W0 M22 := qae hBM17 hbM22 hBM17.size;have hzM22 := hBM22.size;rw [← hM22];clear hM22;refine ⟨fun _ => hBM22, ?_⟩;obtain ⟨N23, hrun23, hmN23, htN23⟩ := mm22.store (by decide) hkey (t.val A' c');simp only [Tm.val] at hrun23;have hBN23 : Below W0.heap.size W0 N23 := hBM22.grown htN23.grown hBM22.size (fun j e => by injection e with e; omega);have hzN23 := hBN23.size;have hsN23 := htN23.grown.size;refine qaw rfl rfl (fun K hK => ?_);refine qcj (by rfl) 62 (.tmp 13) (.tmp 15) (.tmp 16) (by rfl) (by rfl) (by rfl) (by rfl) hrun23 ?_;refine hK _ _ ⟨fun _ => hBN23, ?_⟩;clear hK K;simp only [Act.put];have yy23 := (htN23.grown.block M17.heap.size (by omega) (fun e => by injection e with e; omega)).trans hyM22
     refine qb4 (v := .map (some K16.heap.size)) rfl rfl (fun _ _ _ h => nomatch h.1) hBN23 (fun Y hY => by (try simp only [Act.put]); go_simp) ?_;simp only [Act.put, List.setIfInBounds_toArray];obtain ⟨c25, f25⟩ := qcu yy23;have q25 := qbj (u := .map (some K16.heap.size)) yy23;refine qaw rfl rfl (fun K hK => ?_);go_wp2_with fail
     refine ⟨fun h => absurd h (by decide), qc9 ?_⟩;have hsd := HSD.out;refine ⟨rfl, K16.heap.size, M17.heap.size, rfl, q25, ?_, qae HB0 (hBN23.setCell (p := ⟨M17.heap.size, 0, none⟩) (by show W0.heap.size ≤ M17.heap.size; omega) _) HB0.size, by omega, by omega⟩;exact hmN23.keep (Below.heap_setCell _ _ _ _ (by show K16.heap.size ≠ M17.heap.size; omega))
   ·skip
    refine qaw rfl rfl (fun K hK => ?_);go_wp2_with fail
    obtain ⟨M26, hM26⟩ : ∃ M26, M26 = K16.alloc (.cells #[.map none] 62) := ⟨_, rfl⟩;have hbM26 : Below K16.heap.size K16 M26 := by rw [hM26]; exact qaf (Nat.le_refl _) _
    have hsM26 : K16.heap.size < M26.heap.size := by rw [hM26]; simp
    have hyM26 : M26.heap[K16.heap.size]? = some (.cells #[.map none] 62 (0, 0)) := by rw [hM26]; exact heap_alloc_new _ _
    have hBM26 : Below W0.heap.size W0 M26 := qae hBK16 hbM26 hBK16.size;have hzM26 := hBM26.size;rw [← hM26];clear hM26;refine ⟨fun _ => hBM26, ?_⟩;refine qaw rfl rfl (fun K hK => ?_);refine qde (by rfl) 62 (by rfl) ?_;obtain ⟨M27, hM27⟩ : ∃ M27, M27 = M26.alloc (.map #[] 0) := ⟨_, rfl⟩;have hbM27 : Below M26.heap.size M26 M27 := by rw [hM27]; exact qaf (Nat.le_refl _) _
    have hsM27 : M26.heap.size < M27.heap.size := by rw [hM27]; simp
    have hmM27 : qba M27 M26.heap.size 0 (fun _ => none) := by rw [hM27]; exact qba.made _
    have yy27 := (hbM27.block _ (by omega)).trans hyM26;have hBM27 : Below W0.heap.size W0 M27 := qae hBM26 hbM27 hBM26.size;have hzM27 := hBM27.size;rw [← hM27];clear hM27;refine hK _ _ ⟨fun _ => hBM27, ?_⟩;clear hK K;simp only [Act.put];obtain ⟨N28, hrun28, hmN28, htN28⟩ := hmM27.store (by decide) hkey (t.val A' c');simp only [Tm.val] at hrun28;have hBN28 : Below W0.heap.size W0 N28 := hBM27.grown htN28.grown hBM27.size (fun j e => by injection e with e; omega);have hzN28 := hBN28.size;have hsN28 := htN28.grown.size;refine qaw rfl rfl (fun K hK => ?_);refine qcj (by rfl) 62 (.tmp 13) (.tmp 15) (.tmp 16) (by rfl) (by rfl) (by rfl) (by rfl) hrun28 ?_;refine hK _ _ ⟨fun _ => hBN28, ?_⟩;clear hK K;simp only [Act.put];have yy28 := (htN28.grown.block K16.heap.size (by omega) (fun e => by injection e with e; omega)).trans yy27
    refine qb4 (v := .map (some M26.heap.size)) rfl rfl (fun _ _ _ h => nomatch h.1) hBN28 (fun Y hY => by (try simp only [Act.put]); go_simp) ?_;simp only [Act.put, List.setIfInBounds_toArray];obtain ⟨c30, f30⟩ := qcu yy28;have q30 := qbj (u := .map (some M26.heap.size)) yy28;refine qaw rfl rfl (fun K hK => ?_);go_wp2_with fail
    refine ⟨fun h => absurd h (by decide), qc9 ?_⟩;have hsd := HSD.out;refine ⟨rfl, M26.heap.size, K16.heap.size, rfl, q30, ?_, qae HB0 (hBN28.setCell (p := ⟨K16.heap.size, 0, none⟩) (by show W0.heap.size ≤ K16.heap.size; omega) _) HB0.size, by omega, by omega⟩;exact hmN28.keep (Below.heap_setCell _ _ _ _ (by show M26.heap.size ≠ K16.heap.size; omega))
  ·skip
   refine qaw rfl rfl (fun K hK => ?_);go_wp2_with fail
   obtain ⟨M31, hM31⟩ : ∃ M31, M31 = W0.alloc (.cells #[.map none] 62) := ⟨_, rfl⟩;have hbM31 : Below W0.heap.size W0 M31 := by rw [hM31]; exact qaf (Nat.le_refl _) _
   have hsM31 : W0.heap.size < M31.heap.size := by rw [hM31]; simp
   have hyM31 : M31.heap[W0.heap.size]? = some (.cells #[.map none] 62 (0, 0)) := by rw [hM31]; exact heap_alloc_new _ _
   have hBM31 : Below W0.heap.size W0 M31 := qae (Below.refl W0.heap.size W0) hbM31 (Below.refl W0.heap.size W0).size;have hzM31 := hBM31.size;rw [← hM31];clear hM31;refine ⟨fun _ => hBM31, ?_⟩;refine qe2 ?_ ?_
   ·skip
    refine qaw rfl rfl (fun K hK => ?_);refine qde (by rfl) 62 (by rfl) ?_;obtain ⟨M32, hM32⟩ : ∃ M32, M32 = M31.alloc (.map #[] 0) := ⟨_, rfl⟩;have hbM32 : Below M31.heap.size M31 M32 := by rw [hM32]; exact qaf (Nat.le_refl _) _
    have hsM32 : M31.heap.size < M32.heap.size := by rw [hM32]; simp
    have hmM32 : qba M32 M31.heap.size 0 (fun _ => none) := by rw [hM32]; exact qba.made _
    have yy32 := (hbM32.block _ (by omega)).trans hyM31;have hBM32 : Below W0.heap.size W0 M32 := qae hBM31 hbM32 hBM31.size;have hzM32 := hBM32.size;rw [← hM32];clear hM32;refine hK _ _ ⟨fun _ => hBM32, ?_⟩;clear hK K;simp only [Act.put];refine qaw rfl rfl (fun K hK => ?_);go_wp2_with fail
    refine (KY.out M32).mono ?_;rintro e K33 ⟨rfl, hlK33⟩;have hBK33 : Below W0.heap.size W0 K33 := qae hBM32 hlK33.below hBM32.size;have hsK33 := hlK33.size;have hzK33 := hBK33.size;refine hK _ _ ⟨fun _ => hBK33, ?_⟩;clear hK K;have mm33 := hmM32.below hlK33.below.block;have yy33 := (hlK33.below.block _ (by omega)).trans yy32;obtain ⟨N34, hrun34, hmN34, htN34⟩ := mm33.store (by decide) hkey (t.val A' c');simp only [Tm.val] at hrun34;have hBN34 : Below W0.heap.size W0 N34 := hBK33.grown htN34.grown hBK33.size (fun j e => by injection e with e; omega);have hzN34 := hBN34.size;have hsN34 := htN34.grown.size;refine qaw rfl rfl (fun K hK => ?_);refine qcj (by rfl) 62 (.tmp 13) (.tmp 15) (.tmp 16) (by rfl) (by rfl) (by rfl) (by rfl) hrun34 ?_;refine hK _ _ ⟨fun _ => hBN34, ?_⟩;clear hK K;simp only [Act.put]
    have yy34 := (htN34.grown.block W0.heap.size (by omega) (fun e => by injection e with e; omega)).trans yy33;refine qb4 (v := .map (some M31.heap.size)) rfl rfl (fun _ _ _ h => nomatch h.1) hBN34 (fun Y hY => by (try simp only [Act.put]); go_simp) ?_;simp only [Act.put, List.setIfInBounds_toArray];obtain ⟨c36, f36⟩ := qcu yy34;have q36 := qbj (u := .map (some M31.heap.size)) yy34;refine qaw rfl rfl (fun K hK => ?_);go_wp2_with fail
    refine ⟨fun h => absurd h (by decide), qc9 ?_⟩;have hsd := HSD.out;refine ⟨rfl, M31.heap.size, W0.heap.size, rfl, q36, ?_, qae HB0 (hBN34.setCell (p := ⟨W0.heap.size, 0, none⟩) (by show W0.heap.size ≤ W0.heap.size; omega) _) HB0.size, by omega, by omega⟩;exact hmN34.keep (Below.heap_setCell _ _ _ _ (by show M31.heap.size ≠ W0.heap.size; omega))
   ·skip
    refine qaw rfl rfl (fun K hK => ?_);go_wp2_with fail
    refine (KY.out M31).mono ?_;rintro e K37 ⟨rfl, hlK37⟩;have hBK37 : Below W0.heap.size W0 K37 := qae hBM31 hlK37.below hBM31.size;have hsK37 := hlK37.size;have hzK37 := hBK37.size;refine hK _ _ ⟨fun _ => hBK37, ?_⟩;clear hK K;have yy37 := (hlK37.below.block _ (by omega)).trans hyM31;refine qaw rfl rfl (fun K hK => ?_);refine qde (by rfl) 62 (by rfl) ?_;obtain ⟨M38, hM38⟩ : ∃ M38, M38 = K37.alloc (.map #[] 0) := ⟨_, rfl⟩;have hbM38 : Below K37.heap.size K37 M38 := by rw [hM38]; exact qaf (Nat.le_refl _) _
    have hsM38 : K37.heap.size < M38.heap.size := by rw [hM38]; simp
    have hmM38 : qba M38 K37.heap.size 0 (fun _ => none) := by rw [hM38]; exact qba.made _
    have yy38 := (hbM38.block _ (by omega)).trans yy37;have hBM38 : Below W0.heap.size W0 M38 := qae hBK37 hbM38 hBK37.size;have hzM38 := hBM38.size;rw [← hM38];clear hM38;refine hK _ _ ⟨fun _ => hBM38, ?_⟩;clear hK K;simp only [Act.put];obtain ⟨N39, hrun39, hmN39, htN39⟩ := hmM38.store (by decide) hkey (t.val A' c');simp only [Tm.val] at hrun39;have hBN39 : Below W0.heap.size W0 N39 := hBM38.grown htN39.grown hBM38.size (fun j e => by injection e with e; omega);have hzN39 := hBN39.size;have hsN39 := htN39.grown.size;refine qaw rfl rfl (fun K hK => ?_);refine qcj (by rfl) 62 (.tmp 13) (.tmp 15) (.tmp 16) (by rfl) (by rfl) (by rfl) (by rfl) hrun39 ?_;refine hK _ _ ⟨fun _ => hBN39, ?_⟩;clear hK K;simp only [Act.put];have yy39 := (htN39.grown.block W0.heap.size (by omega) (fun e => by injection e with e; omega)).trans yy38
    refine qb4 (v := .map (some K37.heap.size)) rfl rfl (fun _ _ _ h => nomatch h.1) hBN39 (fun Y hY => by (try simp only [Act.put]); go_simp) ?_;simp only [Act.put, List.setIfInBounds_toArray];obtain ⟨c41, f41⟩ := qcu yy39;have q41 := qbj (u := .map (some K37.heap.size)) yy39;refine qaw rfl rfl (fun K hK => ?_);go_wp2_with fail
    refine ⟨fun h => absurd h (by decide), qc9 ?_⟩;have hsd := HSD.out;refine ⟨rfl, K37.heap.size, W0.heap.size, rfl, q41, ?_, qae HB0 (hBN39.setCell (p := ⟨W0.heap.size, 0, none⟩) (by show W0.heap.size ≤ W0.heap.size; omega) _) HB0.size, by omega, by omega⟩;exact hmN39.keep (Below.heap_setCell _ _ _ _ (by show K37.heap.size ≠ W0.heap.size; omega))
 rintro a' W3 ⟨mb, yb, rfl, hyb, hmap, hb3, hmb, hyb2⟩;clear HBD a0 a1 a2 a3 b0 b1 b2 b3 hsd;obtain ⟨W4, hW4⟩ : ∃ W4, W4 = W3.alloc (.cells #[.bool true] 4) := ⟨_, rfl⟩;have hb4 : Below W3.heap.size W3 W4 := by rw [hW4]; exact qaf (Nat.le_refl _) _
 have hs4 : W4.heap.size = W3.heap.size + 1 := by rw [hW4]; simp
 have hrb4 : W4.heap[W3.heap.size]? = some (.cells #[.bool true] 4 (0, 0)) := by rw [hW4]; exact heap_alloc_new _ _
 have hs3 := hb3.size;have hyl3 := (Array.getElem?_eq_some_iff.1 hyb).1;have hml3 := hmap.lt;have hwW4 : Below w.heap.size w W4 := qae (qae H2.out.lay.below hb3 hs2) hb4 (by omega);obtain ⟨G, hGd⟩ : ∃ G : Nat → Prop, G = fun b => b ≠ xb ∧ b < w.heap.size ∧ (Value.slice BA its.length Bc).ownBlock ≠ some b := ⟨_, rfl⟩;have hGl : ∀ k, G k → k < w.heap.size ∧ k ≠ xb ∧ (Value.slice BA its.length Bc).ownBlock ≠ some k := fun k h => by rw [hGd] at h; exact ⟨h.2.1, h.1, h.2.2⟩
 have hrt4 : RepP W4 G t A' c' := by rw [hGd]; exact RepP.mono (fun _ h => h) (fun p hp => hwW4.cell hp.2.1) _ _ _ HRT.out
 have hmap4 : MapT W4 mb 1 G [(v, t)] := mapOne HK.out HKI.out (hmap.below fun k hk => hb4.block k hk) hrt4;have hpairs4 : RepB W4 G ps PA Pc := by rw [hGd]; exact RepB.mono (fun _ h => h) (fun p hp => hwW4.cell hp.2.1) HS.out.pairs
 have CL := qmf G ps PA Pc W4 (fun k hk => by have := (hGl k hk).1; have := hwW4.size; omega) hpl hpairs4;obtain ⟨x0, x1, xf⟩ := qci ((hwW4.block xb hxb).trans HS.out.cell);have HYB := Lib.hid ((hb4.block yb (Array.getElem?_eq_some_iff.1 hyb).1).trans hyb); clear hyb;have HMP := Lib.hid hmap4; clear hmap4 hmap;have HRB := Lib.hid hrb4; clear hrb4;have HG := Lib.hid hGl; clear hGl;have HGD := Lib.hid hGd; clear hGd;have hwl4 := hwW4.size;have HB24 := Lib.hid (qae hb3 hb4 hb3.size);have HW := Lib.hid hwW4; clear hwW4 hrt4 hpairs4 hb3 hb4;have hyl := (Array.getElem?_eq_some_iff.1 HYB.out).1;have hml := HMP.out.lt;rw [hW4] at x0 x1;have HW4 := Lib.hid hW4; clear hW4;have CL := Lib.hid CL;go_wp2_with fail
 rw [← HW4.out];refine CL.out.mono ?_; clear CL x0 x1 xf;rintro e W5 ⟨hb5, CA, Cc, itsP, rfl, hitsP, hrowP⟩;have hs5 := hb5.size;obtain ⟨rb, hrbd⟩ : ∃ rb, rb = W3.heap.size := ⟨_, rfl⟩;rw [← hrbd] at HRB ⊢;have hrbl : rb < W4.heap.size := by omega
 have hrwl : w.heap.size ≤ rb := by omega
 have hyr : yb ≠ rb := by omega
 have hmr : mb ≠ rb := by omega
 have hlen : itsP.length = ps.length := by rw [← hitsP]; simp
 have HIP := Lib.hid hitsP; clear hitsP;have HRP := Lib.hid hrowP; clear hrowP;have HB5 := Lib.hid hb5; clear hb5;have HRBD := Lib.hid hrbd; clear hrbd;clear hyl3 hml3;go_wp2_with fail
 go_loopw [26] (fun i wr => ∃ (k : Nat) (cur : List IB), k ≤ ps.length ∧ i = .int .i64 k ∧ cur.length = ps.length ∧ Hid (RowG 53 wr W4.heap.size (fun b => G b ∨ W5.heap.size ≤ b) (.slice CA ps.length Cc) cur) ∧
   Hid (cur.map IB.bd = (ps.take k).map (putP v t) ++ ps.drop k) ∧ Hid (∀ j, (h : j < cur.length) → k ≤ j → RepP wr G cur[j].1.1 cur[j].1.2.1 cur[j].1.2.2 ∧ RepP wr G cur[j].2.1 cur[j].2.2.1 cur[j].2.2.2) ∧
   Hid (wr.heap[rb]? = some (.cells #[.bool (okP ((ps.take k).map (putP v t)))] 4 (0, 0))) ∧ Hid (Kept (fun b => (Value.slice CA ps.length Cc).ownBlock = some b ∨ b = rb) W5 wr)) (fun i _ => ps.length - (intOf i).toNat)
 case atStart =>
  refine ⟨0, itsP, Nat.zero_le _, rfl, hlen, ⟨HRP.out.own, fun x hx => ?_⟩, ?_, fun j hj _ => ?_, ?_, Kept.refl _ _⟩
  ·obtain ⟨r1, r2⟩ := HRP.out.reps x hx;exact ⟨RepP.mono (fun _ h => ⟨.inl h.1, h.2⟩) (fun _ _ => rfl) _ _ _ r1, RepP.mono (fun _ h => ⟨.inl h.1, h.2⟩) (fun _ _ => rfl) _ _ _ r2⟩
  ·show _ = _;rw [HIP.out]; simp
  ·obtain ⟨r1, r2⟩ := HRP.out.reps itsP[j] (List.getElem_mem hj);exact ⟨RepP.mono (fun _ h => h.1) (fun _ _ => rfl) _ _ _ r1, RepP.mono (fun _ h => h.1) (fun _ _ => rfl) _ _ _ r2⟩
  ·exact (HB5.out.block _ hrbl).trans HRB.out
 case round =>
  obtain ⟨k, cur, hkl, rfl, hcl, HR, HM, HJ, HQ, HKP⟩ := hrel;have i1 : (0 : Int) ≤ (k : Int) := Int.natCast_nonneg _;by_cases hlt : k < ps.length
  ·have i2 : (k : Int) < (ps.length : Int) := by omega
   have hkc : k < cur.length := by omega
   obtain ⟨g, rfl⟩ : ∃ g, CA = some ⟨g, 0, none⟩ := by
    rcases HR.out.own.2 with ⟨_, h0⟩ | ⟨g, _, _, hv, _⟩
    ·omega
    ·injection hv with h1 _ _; exact ⟨g, h1⟩
   have hgl := HR.out.lt g rfl;have hks := HKP.out.size;have hgr : g ≠ rb := by omega
   have hcb : cur[k].bd = ps[k] := by
    have h := congrArg (·[k]?) HM.out;simp only [List.getElem?_map, List.getElem?_eq_getElem hkc, Option.map_some] at h;rw [List.getElem?_append_right (by simp; omega)] at h;simp only [List.length_map, List.length_take, List.getElem?_drop] at h;rw [show k + (k - min k ps.length) = k by omega, List.getElem?_eq_getElem hlt] at h;exact Option.some.inj h
   obtain ⟨hv1, hv2⟩ := HPS.out ps[k] (List.getElem_mem hlt);rw [← hcb] at hv1 hv2;have hv1 : cur[k].1.1.valid = 0 := hv1;have hv2 : cur[k].2.1.valid = 0 := hv2;have hs1 : ∀ b ∈ ([(v, t)] : List Bd), b.2.size ≤ 400 := fun b hb => by rw [List.mem_singleton] at hb; subst hb; exact qah ht
   obtain ⟨⟨k0, k1, k2, k3⟩, -, kf⟩ := HR.out.slot k hkc;have hog : ∀ b, (Value.slice (some ⟨g, 0, none⟩) ps.length Cc).ownBlock = some b → g = b := fun b h => Option.some.inj h;have ny : ¬ ((Value.slice (some ⟨g, 0, none⟩) ps.length Cc).ownBlock = some yb ∨ yb = rb) := fun h => h.elim (fun h => by have := hog _ h; omega) hyr;have nm : ¬ ((Value.slice (some ⟨g, 0, none⟩) ps.length Cc).ownBlock = some mb ∨ mb = rb) := fun h => h.elim (fun h => by have := hog _ h; omega) hmr;have hyw := (HKP.out.same yb (by omega) ny).trans ((HB5.out.block _ (by omega)).trans HYB.out);have hGw : ∀ k, G k → k < W5.heap.size ∧ k ≠ g ∧ k ≠ rb := fun k hk => by have := (HG.out k hk).1; omega
   have nG : ∀ k, G k → ¬ ((Value.slice (some ⟨g, 0, none⟩) ps.length Cc).ownBlock = some k ∨ k = rb) := fun k hk h => h.elim (fun h => (hGw k hk).2.1 (hog _ h).symm) (hGw k hk).2.2;have hmw : MapT W5 mb 1 G [(v, t)] := HMP.out.below HB5.out hml (fun k hk => by have := (HG.out k hk).1; omega);have hmw : MapT wr mb 1 G [(v, t)] := hmw.keep (HKP.out.same mb (by omega) nm) (fun p hp => HKP.out.cell (hGw _ hp).1 (nG _ hp));obtain ⟨hr1, hr2⟩ := HJ.out k hkc (Nat.le_refl _);have C1 := qfn mb yb rb 1 G [(v, t)] cur[k].1.1 cur[k].1.2.1 cur[k].1.2.2 g (k * 8) _ wr (qay.1 hv1).1 (by have := qah hv1; omega) (by have := qf2 hs1 (by omega) cur[k].1.1; have := qah hv1; omega)
    (fun k hk => ⟨by have := (hGw k hk).1; omega, (hGw k hk).2.1⟩) hyw HQ.out hmw hgr hgl.2 ⟨k0, k1, k2, k3⟩ kf hr1
   obtain ⟨x, hx⟩ : ∃ x, x = cur[k] := ⟨_, rfl⟩;rw [← hx] at C1 hr1 hr2 hcb hv1 hv2;have hput1 : (putP v t ps[k]).1 = x.1.1.put [(v, t)] := by rw [← hcb]; rfl
   have hput2 : (putP v t ps[k]).2 = x.2.1.put [(v, t)] := by rw [← hcb]; rfl
   obtain ⟨u1, hu1⟩ : ∃ u, u = x.1.1.put [(v, t)] := ⟨_, rfl⟩;obtain ⟨u2, hu2⟩ : ∃ u, u = x.2.1.put [(v, t)] := ⟨_, rfl⟩;rw [← hu1] at C1 hput1;rw [← hu2] at hput2;have hRW1 : ∀ w6, qcp G u1 g (k * 8) rb (okP ((ps.take k).map (putP v t))) wr (.returned (.tuple #[])) w6 → ∃ A c, RowG 53 w6 W4.heap.size (fun b => G b ∨ W5.heap.size ≤ b) (.slice (some ⟨g, 0, none⟩) ps.length Cc) (cur.set k ((u1, A, c), x.2)) := fun w6 h => by
    have := qcp.row (T := 53) (e := .returned (.tuple #[])) (w' := w6) (q := okP ((ps.take k).map (putP v t))) (rb := rb) (u := u1) (G := G) HR.out hcl.symm hkc (fun k hk => ⟨.inl hk, by have := (hGw k hk).1; omega, (hGw k hk).2.1⟩) (fun k hk => .inr (by omega)) (by rintro (h | h); exact (hGw rb h).2.2 rfl; omega) hgr.symm;rw [hx]; exact this.1 h
   have HX := Lib.hid hx; clear hx;have HP1 := Lib.hid hput1; clear hput1;have HP2 := Lib.hid hput2; clear hput2;have HU1 := Lib.hid hu1; clear hu1;have HU2 := Lib.hid hu2; clear hu2;have HCB := Lib.hid hcb; clear hcb;have HRW1 := Lib.hid hRW1; clear hRW1;have HHR1 := Lib.hid hr1; clear hr1;have HHR2 := Lib.hid hr2; clear hr2;have HMW := Lib.hid hmw; clear hmw;have HYW := Lib.hid hyw; clear hyw;have HGW := Lib.hid hGw; clear hGw;have HNG := Lib.hid nG; clear nG;have HV1 := Lib.hid hv1; clear hv1;have HV2 := Lib.hid hv2; clear hv2;have HOG := Lib.hid hog; clear hog;clear k0 k1 k2 k3 kf ny nm;have C1 := Lib.hid C1;go_wp2_with fail
   refine C1.out.mono ?_; clear C1;rintro e w6 hc1;obtain rfl := hc1.1;obtain ⟨A6, c6, hrow6⟩ := HRW1.out w6 hc1;obtain ⟨hk6, hq6⟩ := hc1.kept (Ne.symm hgr) HQ.out;clear hc1;have hs6 := hk6.size;have hkc6 : k < (cur.set k ((u1, A6, c6), x.2)).length := by rw [List.length_set]; exact hkc
   obtain ⟨-, ⟨k0, k1, k2, k3⟩, kf⟩ := hrow6.slot k hkc6;rw [List.getElem_set_self] at k0 k1 k2 k3;have hcell6 : ∀ p : Addr, G p.block → w6.cell? p = wr.cell? p := fun p hp => hk6.cell (by have := (HGW.out _ hp).1; omega) (fun h => h.elim (HGW.out _ hp).2.1 (HGW.out _ hp).2.2);have hyw6 := (hk6.same yb (by omega) (fun h => h.elim (by omega) hyr)).trans HYW.out;have hmw6 : MapT w6 mb 1 G [(v, t)] := HMW.out.keep (hk6.same mb (by omega) (fun h => h.elim (by omega) hmr)) hcell6;have C2 := qfn mb yb rb 1 G [(v, t)] x.2.1 x.2.2.1 x.2.2.2 g (k * 8 + 4) _ w6 (qay.1 HV2.out).1 (by have := qah HV2.out; omega) (by have := qf2 hs1 (by omega) x.2.1; have := qah HV2.out; omega)
    (fun k hk => ⟨by have := (HGW.out k hk).1; omega, (HGW.out k hk).2.1⟩) hyw6 hq6 hmw6 hgr (by omega) ⟨k0, k1, k2, k3⟩ kf (RepP.mono (fun _ h => h) (fun p hp => hcell6 p hp) _ _ _ HHR2.out)
   rw [← HU2.out] at C2;have HROW6 := Lib.hid hrow6; clear hrow6;have HK6 := Lib.hid hk6; clear hk6;have HQ6 := Lib.hid hq6; clear hq6;have HC6 := Lib.hid hcell6; clear hcell6;clear k0 k1 k2 k3 kf hyw6 hmw6;have C2 := Lib.hid C2;go_wp2_with fail
   refine C2.out.mono ?_; clear C2;rintro e w7 hc2;obtain rfl := hc2.1;have hRW2 := qcp.row (T := 53) (e := .returned (.tuple #[])) (w' := w7) (q := okP ((ps.take k).map (putP v t)) && decide (u1.valid = 0)) (rb := rb) (u := u2) (G := G) HROW6.out (by rw [List.length_set]; exact hcl.symm) hkc6 (fun k hk => ⟨.inl hk, by have := (HGW.out k hk).1; omega, (HGW.out k hk).2.1⟩) (fun k hk => .inr (by omega)) (by rintro (h | h); exact (HGW.out rb h).2.2 rfl; omega) hgr.symm;obtain ⟨A7, c7, hrow7⟩ := hRW2.2 hc2;obtain ⟨hk7, hq7⟩ := hc2.kept (Ne.symm hgr) HQ6.out;clear hc2 hRW2;rw [List.getElem_set_self, List.set_set] at hrow7;have HROW7 := Lib.hid hrow7; clear hrow7;have HK7 := Lib.hid (HK6.out.trans hk7); clear hk7;have HQ7 := Lib.hid hq7; clear hq7;go_wp2_with fail
   go_roundw
   case rel =>
    refine ⟨k + 1, _, by omega, by go_num, by rw [List.length_set]; exact hcl, HROW7.out, ?_, fun j hj hjk => ?_, ?_, HKP.out.trans (HK7.out.mono fun b h => h.elim (fun h => .inl (by rw [h]; rfl)) .inr)⟩
    ·show _ = _;rw [List.map_set, HM.out, List.take_succ_eq_append_getElem hlt, List.map_append, List.append_assoc];have hl1 : ((ps.take k).map (putP v t)).length = k := by simp; omega
     rw [List.set_append_right _ _ (by omega), hl1, Nat.sub_self, List.drop_eq_getElem_cons hlt]
     congr 1
     rw [List.set_cons_zero, List.map_singleton, List.singleton_append]
     congr 1
     exact Prod.ext (by rw [HP1.out]; rfl) (by rw [HP2.out]; rfl)
    ·have hj2 : j < cur.length := by rw [List.length_set] at hj; exact hj
     rw [List.getElem_set_ne (by omega)];have hc7 : ∀ p : Addr, G p.block → w7.cell? p = wr.cell? p := fun p hp => HK7.out.cell (by have := (HGW.out _ hp).1; omega) (fun h => h.elim (HGW.out _ hp).2.1 (HGW.out _ hp).2.2);obtain ⟨r1, r2⟩ := HJ.out j hj2 (by omega);exact ⟨RepP.mono (fun _ h => h) (fun p hp => hc7 p hp) _ _ _ r1, RepP.mono (fun _ h => h) (fun p hp => hc7 p hp) _ _ _ r2⟩
    ·show _ = _;rw [HQ7.out, List.take_succ_eq_append_getElem hlt, List.map_append, List.map_singleton, qmh, HP1.out, HP2.out, Bool.and_assoc]
   case measure => simp [intOf]; omega
  ·obtain rfl : k = ps.length := by omega
   obtain ⟨W6, hW6⟩ : ∃ W6, W6 = wr := ⟨_, rfl⟩;rw [← hW6] at HR HJ HQ HKP ⊢;clear hW6 HJ;have hmapP : cur.map IB.bd = ps.map (putP v t) := by have := HM.out; rw [List.take_length, List.drop_length, List.append_nil] at this; exact this
   have hq6 := HQ.out;rw [List.take_length] at hq6;have hks := HKP.out.size;have hnl : ∀ b, b < w.heap.size → ¬ ((Value.slice CA ps.length Cc).ownBlock = some b ∨ b = rb) := fun b hb h => h.elim (fun h => by have := (HRP.out.lt _ h).1; omega) (fun h => by omega);have hold : ∀ b, b < w.heap.size → W6.heap[b]? = w.heap[b]? := fun b hb => (HKP.out.same b (by omega) (hnl b hb)).trans ((HB5.out.block b (by omega)).trans (HW.out.block b hb));have nY : ∀ b, w.heap.size ≤ b → b < W4.heap.size → b ≠ rb → W6.heap[b]? = W4.heap[b]? := fun b h1 h2 h3 => (HKP.out.same b (by omega) (fun h => h.elim (fun h => by have := (HRP.out.lt _ h).1; omega) h3)).trans (HB5.out.block b h2);have hyb6 := (nY yb (by omega) (by omega) hyr).trans HYB.out;have hGc : ∀ p : Addr, G p.block → W6.cell? p = W4.cell? p := fun p hp => by
    have := (HG.out _ hp).1;rw [World.cell?_of_block (hold _ this), World.cell?_of_block (HW.out.block _ this)]
   have hmp6 : MapT W6 mb 1 G [(v, t)] := HMP.out.keep (nY mb (by omega) (by omega) hmr) hGc;have hrow6 : RowG 48 W6 (xb + 1) (fun b => (b ≠ xb ∧ b < w.heap.size) ∨ W6.heap.size ≤ b) (.slice BA its.length Bc) its := by
    have h0 : RowG 48 w (xb + 1) (fun b => (b ≠ xb ∧ b < w.heap.size) ∨ W6.heap.size ≤ b) (.slice BA its.length Bc) its := ⟨HS.out.row.own, fun x hx => by
     obtain ⟨r1, r2⟩ := HS.out.row.reps x hx;exact ⟨RepP.mono (fun b ⟨h1, h2, h3⟩ => ⟨.inl ⟨h1, h2⟩, h2, h3⟩) (fun _ _ => rfl) _ _ _ r1, RepP.mono (fun b ⟨h1, h2, h3⟩ => ⟨.inl ⟨h1, h2⟩, h2, h3⟩) (fun _ _ => rfl) _ _ _ r2⟩⟩
    exact h0.keep (by omega) (fun b hb _ => hold b hb)
   have hrepJ : ∀ j, (h : j < its.length) → RepP W6 G its[j].2.1 its[j].2.2.1 its[j].2.2.2 := fun j h => by
    obtain ⟨r1, r2⟩ := HS.out.row.reps its[j] (List.getElem_mem h);rw [HGD.out];exact RepP.mono (fun _ h => h) (fun p hp => World.cell?_of_block (hold _ hp.2.1)) _ _ _ r2
   have hil : its.length = bs.length := by rw [← HS.out.is]; simp
   obtain ⟨x0, x1, xf⟩ := qci ((hold xb hxb).trans HS.out.cell);have HROWP := Lib.hid HR.out; clear HR;have HMAPP := Lib.hid hmapP; clear hmapP HM;have HQP := Lib.hid hq6; clear hq6 HQ;have HOLD := Lib.hid hold; clear hold;have HYB6 := Lib.hid hyb6; clear hyb6;have HMP6 := Lib.hid hmp6; clear hmp6;have HROW6 := Lib.hid hrow6; clear hrow6;have HRJ := Lib.hid hrepJ; clear hrepJ;have HIL := Lib.hid hil; clear hil;have HNY := Lib.hid nY; clear nY hnl hGc;go_wp2_with fail
   clear x0 x1 xf;go_loopw [47] (fun i wr => ∃ (k : Nat) (cur : List IB), k ≤ its.length ∧ i = .int .i64 k ∧ cur.length = its.length ∧ Hid (RowG 48 wr (xb + 1) (fun b => (b ≠ xb ∧ b < w.heap.size) ∨ W6.heap.size ≤ b) (.slice BA its.length Bc) cur) ∧
     Hid (cur.map IB.bd = (bs.take k).map (putB v t) ++ bs.drop k) ∧ Hid (∀ j, (h : j < cur.length) → k ≤ j → RepP wr G cur[j].2.1 cur[j].2.2.1 cur[j].2.2.2) ∧
     Hid (wr.heap[rb]? = some (.cells #[.bool (okP (ps.map (putP v t)) && ((bs.take k).map (putB v t)).all (fun b => decide (b.2.valid = 0)))] 4 (0, 0))) ∧ Hid (Kept (fun b => (Value.slice BA its.length Bc).ownBlock = some b ∨ b = rb) W6 wr)) (fun i _ => its.length - (intOf i).toNat)
   case atStart =>
    refine ⟨0, its, Nat.zero_le _, rfl, rfl, HROW6.out, ?_, fun j hj _ => HRJ.out j hj, ?_, Kept.refl _ _⟩
    ·show _ = _;rw [HS.out.is]; simp
    ·show _ = _;rw [HQP.out]; simp
   case round =>
    clear hkl i1 hlt;obtain ⟨k2, cu2, hkl, rfl, hcl2, HR, HM, HJ, HQ, HK2⟩ := hrel;have i1 : (0 : Int) ≤ (k2 : Int) := Int.natCast_nonneg _;have hk2s := HK2.out.size;have hbaw : ∀ b, (Value.slice BA its.length Bc).ownBlock = some b → xb + 1 ≤ b ∧ b < w.heap.size := HS.out.row.lt;have nxb : ¬ ((Value.slice BA its.length Bc).ownBlock = some xb ∨ xb = rb) := fun h => h.elim (fun h => by have := (hbaw _ h).1; omega) (fun h => by omega);have hxc := (HK2.out.same xb (by omega) nxb).trans ((HOLD.out xb hxb).trans HS.out.cell);have hGn : ∀ k, G k → ¬ ((Value.slice BA its.length Bc).ownBlock = some k ∨ k = rb) := fun k hk h => h.elim (HG.out k hk).2.2 (fun h => by have := (HG.out k hk).1; omega);by_cases hlt : k2 < its.length
    ·have i2 : (k2 : Int) < (its.length : Int) := by omega
     have hkc : k2 < cu2.length := by omega
     have hkb : k2 < bs.length := by have := HIL.out; omega
     obtain ⟨g, rfl⟩ : ∃ g, BA = some ⟨g, 0, none⟩ := by
      rcases HR.out.own.2 with ⟨_, h0⟩ | ⟨g, _, _, hv, _⟩
      ·omega
      ·injection hv with h1 _ _; exact ⟨g, h1⟩
     have hgw := hbaw g rfl;have hgr : g ≠ rb := by omega
     have hcb : cu2[k2].bd = bs[k2] := by
      have h := congrArg (·[k2]?) HM.out;simp only [List.getElem?_map, List.getElem?_eq_getElem hkc, Option.map_some] at h;rw [List.getElem?_append_right (by simp; omega)] at h;simp only [List.length_map, List.length_take, List.getElem?_drop] at h;rw [show k2 + (k2 - min k2 bs.length) = k2 by omega, List.getElem?_eq_getElem hkb] at h;exact Option.some.inj h
     have hv2 : cu2[k2].2.1.valid = 0 := by
      have h := (HBS.out bs[k2] (List.getElem_mem hkb)).2.2;rw [← hcb] at h; exact h
     have hs1 : ∀ b ∈ ([(v, t)] : List Bd), b.2.size ≤ 400 := fun b hb => by rw [List.mem_singleton] at hb; subst hb; exact qah ht
     obtain ⟨-, ⟨k0, k1, k2', k3⟩, kf⟩ := HR.out.slot k2 hkc;have hog : ∀ b, (Value.slice (some ⟨g, 0, none⟩) its.length Bc).ownBlock = some b → g = b := fun b h => Option.some.inj h;have hyw := (HK2.out.same yb (by have := (Array.getElem?_eq_some_iff.1 HYB6.out).1; omega) (fun h => h.elim (fun h => by have := hog _ h; omega) hyr)).trans HYB6.out;have hmw : MapT wr mb 1 G [(v, t)] := HMP6.out.keep (HK2.out.same mb HMP6.out.lt (fun h => h.elim (fun h => by have := hog _ h; omega) hmr)) (fun p hp => HK2.out.cell (by have := (HG.out _ hp).1; omega) (hGn _ hp));have C1 := qfn mb yb rb 1 G [(v, t)] cu2[k2].2.1 cu2[k2].2.2.1 cu2[k2].2.2.2 g (k2 * 8 + 4) _ wr (qay.1 hv2).1 (by have := qah hv2; omega) (by have := qf2 hs1 (by omega) cu2[k2].2.1; have := qah hv2; omega)
      (fun k hk => ⟨by have := (HG.out k hk).1; omega, fun e => (HG.out k hk).2.2 (by rw [e]; rfl)⟩) hyw HQ.out hmw hgr (by omega) ⟨k0, k1, k2', k3⟩ kf (HJ.out k2 hkc (Nat.le_refl _))
     obtain ⟨x, hx⟩ : ∃ x, x = cu2[k2] := ⟨_, rfl⟩;rw [← hx] at C1 hcb;have hput2 : putB v t bs[k2] = (x.1.1, x.2.1.put [(v, t)]) := by rw [← hcb]; rfl
     obtain ⟨u2, hu2⟩ : ∃ u, u = x.2.1.put [(v, t)] := ⟨_, rfl⟩;rw [← hu2] at C1 hput2;have hRW1 : ∀ w6, qcp G u2 g (k2 * 8 + 4) rb (okP (ps.map (putP v t)) && ((bs.take k2).map (putB v t)).all (fun b => decide (b.2.valid = 0))) wr (.returned (.tuple #[])) w6 → ∃ A c, RowG 48 w6 (xb + 1) (fun b => (b ≠ xb ∧ b < w.heap.size) ∨ W6.heap.size ≤ b) (.slice (some ⟨g, 0, none⟩) its.length Bc) (cu2.set k2 (x.1, (u2, A, c))) := fun w6 h => by
      have := qcp.row (T := 48) (e := .returned (.tuple #[])) (w' := w6) (q := okP (ps.map (putP v t)) && ((bs.take k2).map (putB v t)).all (fun b => decide (b.2.valid = 0))) (rb := rb) (u := u2) (G := G) HR.out hcl2.symm hkc
       (fun k hk => ⟨.inl ⟨(HG.out k hk).2.1, (HG.out k hk).1⟩, by have := (HG.out k hk).1; omega, fun e => (HG.out k hk).2.2 (by rw [e]; rfl)⟩) (fun k hk => .inr (by omega)) (by rintro (⟨-, h⟩ | h) <;> omega) hgr.symm
      rw [hx]; exact this.2 h
     obtain ⟨x0, x1, xf⟩ := qci hxc;have HP2 := Lib.hid hput2; clear hput2;have HRW1 := Lib.hid hRW1; clear hRW1;have HGN := Lib.hid hGn; clear hGn;have C1 := Lib.hid C1;clear hx hu2 hcb hv2 k0 k1 k2' k3 kf hmw hyw hog hxc;go_wp2_with fail
     refine C1.out.mono ?_; clear C1 x0 x1 xf;rintro e w8 hc1;obtain rfl := hc1.1;obtain ⟨A8, c8, hrow8⟩ := HRW1.out w8 hc1;obtain ⟨hk8, hq8⟩ := hc1.kept (Ne.symm hgr) HQ.out;clear hc1;have HROW8 := Lib.hid hrow8; clear hrow8;have HK8 := Lib.hid hk8; clear hk8;have HQ8 := Lib.hid hq8; clear hq8;go_wp2_with fail
     go_roundw
     case rel =>
      refine ⟨k2 + 1, _, by omega, by go_num, by rw [List.length_set]; exact hcl2, HROW8.out, ?_, fun j hj hjk => ?_, ?_, HK2.out.trans (HK8.out.mono fun b h => h.elim (fun h => .inl (by rw [h]; rfl)) .inr)⟩
      ·show _ = _;rw [List.map_set, HM.out, List.take_succ_eq_append_getElem hkb, List.map_append, List.append_assoc];have hl1 : ((bs.take k2).map (putB v t)).length = k2 := by simp; omega
       rw [List.set_append_right _ _ (by omega), hl1, Nat.sub_self, List.drop_eq_getElem_cons hkb]
       congr 1
       rw [List.set_cons_zero, List.map_singleton, List.singleton_append]
       congr 1
       exact HP2.out.symm
      ·have hj2 : j < cu2.length := by rw [List.length_set] at hj; exact hj
       rw [List.getElem_set_ne (by omega)];exact RepP.mono (fun _ h => h) (fun p hp => HK8.out.cell (by have := (HG.out _ hp).1; omega) (fun h => h.elim (fun e => (HG.out _ hp).2.2 (by rw [e]; rfl)) (fun e => HGN.out _ hp (.inr e)))) _ _ _ (HJ.out j hj2 (by omega))
      ·show _ = _;rw [HQ8.out, List.take_succ_eq_append_getElem hkb, List.map_append, List.all_append, List.map_singleton, HP2.out, Bool.and_assoc];simp
     case measure => simp [intOf]; omega
    ·obtain rfl : k2 = its.length := by omega
     obtain ⟨W7, hW7⟩ : ∃ W7, W7 = wr := ⟨_, rfl⟩;rw [← hW7] at HR HQ HK2 hxc hk2s ⊢;clear hW7 HJ;have hil := HIL.out;have hmapB : cu2.map IB.bd = bs.map (putB v t) := by have := HM.out; rw [hil, List.take_length, List.drop_length, List.append_nil] at this; exact this
     have hq7 := HQ.out;rw [hil, List.take_length] at hq7;have hright : (okP (ps.map (putP v t)) && (bs.map (putB v t)).all (fun b => decide (b.2.valid = 0))) = qc8 v t ps bs := rfl;rw [hright] at hq7;have hilb : its.length ≤ 1000000 := by omega
     clear hright hil;have nB : ∀ b, w.heap.size ≤ b → b < W6.heap.size → b ≠ rb → W7.heap[b]? = W6.heap[b]? := fun b h1 h2 h3 => HK2.out.same b h2 (fun h => h.elim (fun h => by have := (hbaw _ h).2; omega) h3);have hbox1 := (nB w.heap.size (by have := HRBD.out; omega) (by have := HRBD.out; omega) (by have := HRBD.out; omega)).trans ((HNY.out w.heap.size (Nat.le_refl _) (by have := HRBD.out; omega) (by have := HRBD.out; omega)).trans ((HB24.out.block _ (by have := HRBD.out; omega)).trans H2.out.one));have hbox2 := (nB (w.heap.size + 1) (by have := HRBD.out; omega) (by have := HRBD.out; omega) (by have := HRBD.out; omega)).trans ((HNY.out (w.heap.size + 1) (by have := HRBD.out; omega) (by have := HRBD.out; omega) (by have := HRBD.out; omega)).trans ((HB24.out.block _ (by have := HRBD.out; omega)).trans H2.out.two))
     have hGc : ∀ p : Addr, G p.block → W7.cell? p = w.cell? p := fun p hp => (HK2.out.cell (by have := (HG.out _ hp).1; omega) (hGn _ hp)).trans (World.cell?_of_block (HOLD.out _ (HG.out _ hp).1));have hrow7 : RowG 48 W7.drew (xb + 1) (fun b => b ≠ xb) (.slice BA its.length Bc) cu2 := ⟨HR.out.own, fun x hx => by
      obtain ⟨r1, r2⟩ := HR.out.reps x hx;have key : ∀ b, ((b ≠ xb ∧ b < w.heap.size) ∨ W6.heap.size ≤ b) → b ≠ xb := fun b h => h.elim (·.1) (fun h => by omega);exact ⟨RepP.mono (w := W7) (w' := W7.drew) (fun b ⟨h1, h2, h3⟩ => ⟨key b h1, h2, h3⟩) (fun _ _ => rfl) _ _ _ r1, RepP.mono (w := W7) (w' := W7.drew) (fun b ⟨h1, h2, h3⟩ => ⟨key b h1, h2, h3⟩) (fun _ _ => rfl) _ _ _ r2⟩⟩
     have hrep7 : ∀ (u : Tm) B d, RepP w (fun b => b ≠ xb ∧ b < w.heap.size ∧ (Value.slice BA its.length Bc).ownBlock ≠ some b) u B d → RepP W7.drew (fun b => b ≠ xb ∧ b < W7.drew.heap.size ∧ (Value.slice BA its.length Bc).ownBlock ≠ some b) u B d := fun u B d h =>
      RepP.mono (w := w) (w' := W7.drew) (fun b ⟨h1, h2, h3⟩ => ⟨h1, by show b < W7.heap.size; omega, h3⟩) (fun p hp => hGc p (by rw [HGD.out]; exact hp)) _ _ _ h
     obtain ⟨g9, c9, w9, hap, hrow9, hbl9, hsm9, hsz9, hown9⟩ := hrow7.more1 qls (by show xb + 1 ≤ W7.heap.size; omega) ((v, A, c), (t, A', c')) (hrep7 _ _ _ HRV.out) (hrep7 _ _ _ HRT.out) (by omega);obtain ⟨x0, x1, xf⟩ := qci (show W7.drew.heap[xb]? = _ from hxc);obtain ⟨a0, a1, a2, a3, -⟩ := qad (show W7.drew.heap[w.heap.size]? = _ from hbox1);obtain ⟨b0, b1, b2, b3, -⟩ := qad (show W7.drew.heap[w.heap.size + 1]? = _ from hbox2);have hsd7 : W7.drew.heap.size = W7.heap.size := rfl;have hbd7 : Below W7.heap.size W7 W7.drew := (Below.refl _ _).drew;have hxc7 : W7.drew.heap[xb]? = some (.cells #[.slice PA ps.length Pc, .slice BA its.length Bc] 85 (0, 0)) := hxc;have hq7d : W7.drew.heap[rb]? = some (.cells #[.bool (qc8 v t ps bs)] 4 (0, 0)) := hq7;have nxo : (Value.slice BA its.length Bc).ownBlock ≠ some xb := fun h => nxb (.inl h)
     have n1o : (Value.slice BA its.length Bc).ownBlock ≠ some w.heap.size := fun h => by have := (hbaw _ h).2; omega
     have n2o : (Value.slice BA its.length Bc).ownBlock ≠ some (w.heap.size + 1) := fun h => by have := (hbaw _ h).2; omega
     have nro : (Value.slice BA its.length Bc).ownBlock ≠ some rb := fun h => by have := (hbaw _ h).2; omega
     have HROW9 := Lib.hid hrow9; clear hrow9 hrow7;have HBL9 := Lib.hid hbl9; clear hbl9;have HQ7 := Lib.hid hq7d; clear hq7 hq7d;have HMAPB := Lib.hid hmapB; clear hmapB;have HXC := Lib.hid hxc7; clear hxc7 hxc hbox1 hbox2;have HSM := Lib.hid hsm9; clear hsm9;have HOWN := Lib.hid hown9; clear hown9;have HGC := Lib.hid hGc; clear hGc hrep7;have HSD7 := Lib.hid hsd7; clear hsd7;have HNB := Lib.hid nB; clear nB;have HCL2 := Lib.hid hcl2; clear hcl2;go_wp2_with fail
     refine qbt (fun Y => Y.cell? ⟨xb, 1, none⟩ = some (.slice BA its.length Bc) ∧ (Y.cell? ⟨w.heap.size, 0, none⟩ = some (.int .i64 v.kind) ∧ Y.cell? ⟨w.heap.size, 1, none⟩ = some (.string v.name) ∧ Y.cell? ⟨w.heap.size, 2, none⟩ = some (.int .i64 v.sort) ∧ Y.cell? ⟨w.heap.size, 3, none⟩ = some (.slice A v.kids.length c)) ∧
       (Y.cell? ⟨w.heap.size + 1, 0, none⟩ = some (.int .i64 t.kind) ∧ Y.cell? ⟨w.heap.size + 1, 1, none⟩ = some (.string t.name) ∧ Y.cell? ⟨w.heap.size + 1, 2, none⟩ = some (.int .i64 t.sort) ∧ Y.cell? ⟨w.heap.size + 1, 3, none⟩ = some (.slice A' t.kids.length c'))) 15
      (.held 0 (.held 1 (.held 2 (.held 3 (.held 4 (.held 5 (.held 6 (.held 7 (.held 8 (.held 9 (.op 10 (.op 11 (.op 12 (.op 13 (.op 14 (.op 15 (.op 16 (.op 17 .nil)))))))))))))))))) mixed (by kernel_rfl) ?_
     have hS0 : W7.drew.cell? ⟨xb, 1, none⟩ = some (.slice BA its.length Bc) ∧ (W7.drew.cell? ⟨w.heap.size, 0, none⟩ = some (.int .i64 v.kind) ∧ W7.drew.cell? ⟨w.heap.size, 1, none⟩ = some (.string v.name) ∧ W7.drew.cell? ⟨w.heap.size, 2, none⟩ = some (.int .i64 v.sort) ∧ W7.drew.cell? ⟨w.heap.size, 3, none⟩ = some (.slice A v.kids.length c)) ∧
       (W7.drew.cell? ⟨w.heap.size + 1, 0, none⟩ = some (.int .i64 t.kind) ∧ W7.drew.cell? ⟨w.heap.size + 1, 1, none⟩ = some (.string t.name) ∧ W7.drew.cell? ⟨w.heap.size + 1, 2, none⟩ = some (.int .i64 t.sort) ∧ W7.drew.cell? ⟨w.heap.size + 1, 3, none⟩ = some (.slice A' t.kids.length c')) := ⟨x1, ⟨a0, a1, a2, a3⟩, ⟨b0, b1, b2, b3⟩⟩
     clear x0 x1 xf a0 a1 a2 a3 b0 b1 b2 b3;generalize W7.drew = Z at *;refine qaj (v := .pointer (some ⟨xb, 0, none⟩)) rfl rfl (fun _ _ _ h => h) hS0 (fun Y hY => by
      obtain ⟨x1, ⟨a0, a1, a2, a3⟩, ⟨b0, b1, b2, b3⟩⟩ := hY
      (try simp only [Act.put]); go_simp) ?_
     refine qaj (v := .pointer (some ⟨xb, 0, none⟩)) rfl rfl (fun _ _ _ h => h) hS0 (fun Y hY => by
      obtain ⟨x1, ⟨a0, a1, a2, a3⟩, ⟨b0, b1, b2, b3⟩⟩ := hY
      (try simp only [Act.put]); go_simp) ?_
     refine qaj (v := .slice CA ps.length Cc) rfl rfl (fun _ _ _ h => h) hS0 (fun Y hY => by
      obtain ⟨x1, ⟨a0, a1, a2, a3⟩, ⟨b0, b1, b2, b3⟩⟩ := hY
      (try simp only [Act.put]); go_simp) ?_
     refine qaj (v := .pointer (some ⟨xb, 0, none⟩)) rfl rfl (fun _ _ _ h => h) hS0 (fun Y hY => by
      obtain ⟨x1, ⟨a0, a1, a2, a3⟩, ⟨b0, b1, b2, b3⟩⟩ := hY
      (try simp only [Act.put]); go_simp) ?_
     refine qaj (v := .pointer (some ⟨xb, 0, none⟩)) rfl rfl (fun _ _ _ h => h) hS0 (fun Y hY => by
      obtain ⟨x1, ⟨a0, a1, a2, a3⟩, ⟨b0, b1, b2, b3⟩⟩ := hY
      (try simp only [Act.put]); go_simp) ?_
     refine qaj (v := .pointer (some ⟨xb, 1, none⟩)) rfl rfl (fun _ _ _ h => h) hS0 (fun Y hY => by
      obtain ⟨x1, ⟨a0, a1, a2, a3⟩, ⟨b0, b1, b2, b3⟩⟩ := hY
      (try simp only [Act.put]); go_simp) ?_
     refine qaj (v := .slice BA its.length Bc) rfl rfl (fun _ _ _ h => h) hS0 (fun Y hY => by
      obtain ⟨x1, ⟨a0, a1, a2, a3⟩, ⟨b0, b1, b2, b3⟩⟩ := hY
      (try simp only [Act.put]); go_simp) ?_
     refine qaj (v := .agg #[.int .i64 v.kind, .string v.name, .int .i64 v.sort, .slice A v.kids.length c]) rfl rfl (fun _ _ _ h => h) hS0 (fun Y hY => by
      obtain ⟨x1, ⟨a0, a1, a2, a3⟩, ⟨b0, b1, b2, b3⟩⟩ := hY
      (try simp only [Act.put]); go_simp) ?_
     refine qaj (v := .agg #[.int .i64 t.kind, .string t.name, .int .i64 t.sort, .slice A' t.kids.length c']) rfl rfl (fun _ _ _ h => h) hS0 (fun Y hY => by
      obtain ⟨x1, ⟨a0, a1, a2, a3⟩, ⟨b0, b1, b2, b3⟩⟩ := hY
      (try simp only [Act.put]); go_simp) ?_
     refine qaj (v := .agg #[.int .i64 v.kind, .string v.name, .int .i64 v.sort, .slice A v.kids.length c, .int .i64 t.kind, .string t.name, .int .i64 t.sort, .slice A' t.kids.length c']) rfl rfl (fun _ _ _ h => h) hS0 (fun Y hY => by
      obtain ⟨x1, ⟨a0, a1, a2, a3⟩, ⟨b0, b1, b2, b3⟩⟩ := hY
      (try simp only [Act.put]); go_simp) ?_
     simp only [Act.put, List.setIfInBounds_toArray];have keep : ∀ Y : World, (∀ k, k < Z.heap.size → (Value.slice BA its.length Bc).ownBlock ≠ some k → k ≠ xb → Y.heap[k]? = Z.heap[k]?) → Y.cell? ⟨xb, 1, none⟩ = some (.slice BA its.length Bc) →
       Y.cell? ⟨xb, 1, none⟩ = some (.slice BA its.length Bc) ∧ (Y.cell? ⟨w.heap.size, 0, none⟩ = some (.int .i64 v.kind) ∧ Y.cell? ⟨w.heap.size, 1, none⟩ = some (.string v.name) ∧ Y.cell? ⟨w.heap.size, 2, none⟩ = some (.int .i64 v.sort) ∧ Y.cell? ⟨w.heap.size, 3, none⟩ = some (.slice A v.kids.length c)) ∧
       (Y.cell? ⟨w.heap.size + 1, 0, none⟩ = some (.int .i64 t.kind) ∧ Y.cell? ⟨w.heap.size + 1, 1, none⟩ = some (.string t.name) ∧ Y.cell? ⟨w.heap.size + 1, 2, none⟩ = some (.int .i64 t.sort) ∧ Y.cell? ⟨w.heap.size + 1, 3, none⟩ = some (.slice A' t.kids.length c')) := fun Y hY hx => by
      obtain ⟨-, ⟨a0, a1, a2, a3⟩, ⟨b0, b1, b2, b3⟩⟩ := hS0;have hsd7 := HSD7.out;have e1 := hY w.heap.size (by omega) n1o (by omega);have e2 := hY (w.heap.size + 1) (by omega) n2o (by omega);exact ⟨hx, ⟨(World.cell?_of_block e1).trans a0, (World.cell?_of_block e1).trans a1, (World.cell?_of_block e1).trans a2, (World.cell?_of_block e1).trans a3⟩, ⟨(World.cell?_of_block e2).trans b0, (World.cell?_of_block e2).trans b1, (World.cell?_of_block e2).trans b2, (World.cell?_of_block e2).trans b3⟩⟩
     have hxz : xb < Z.heap.size := by have hsd7 := HSD7.out; omega
     have hS1 := fun o => keep (Z.alloc o) (fun k hk _ _ => Below.heap_alloc _ _ _ hk) ((World.cell?_of_block (Below.heap_alloc _ _ _ hxz)).trans hS0.1);have hxc9 := (HSM.out xb hxz nxo).trans HXC.out;obtain ⟨y0, y1, yf⟩ := qci hxc9;have hS2 := keep w9 (fun k hk h1 _ => HSM.out k hk h1) y1;have hS3 := keep (w9.setCell ⟨xb, 0, none⟩ (.slice CA ps.length Cc)) (fun k hk h1 h2 => (Below.heap_setCell _ _ _ _ h2).trans (HSM.out k hk h1)) ((World.cell?_setCell_other _ _ _ _ (by simp)).trans y1);have hqf := ((Below.heap_setCell (w9.setCell ⟨xb, 0, none⟩ (.slice CA ps.length Cc)) ⟨xb, 1, none⟩ (.slice (some ⟨g9, 0, none⟩) (cu2.length + 1) c9) rb (by show rb ≠ xb; omega)).trans (Below.heap_setCell w9 ⟨xb, 0, none⟩ (.slice CA ps.length Cc) rb (by show rb ≠ xb; omega))).trans ((HSM.out rb (by have hsd7 := HSD7.out; omega) nro).trans HQ7.out);have HKEEP := Lib.hid keep; clear keep
     have HS0 := Lib.hid hS0; clear hS0;have HS1 := Lib.hid hS1; clear hS1;have HS2 := Lib.hid hS2; clear hS2;have HS3 := Lib.hid hS3; clear hS3;have HXC9 := Lib.hid hxc9; clear hxc9;have HQF := Lib.hid hqf; clear hqf;refine mix_op rfl rfl (fun K hK => ?_);go_wp2_with fail
     refine ⟨fun _ => HS1.out _, ?_⟩;refine mix_op rfl rfl (fun K hK => ?_);refine qag (by rfl) (.tmp 66) (.tmp 70) (by rfl) (by rfl) (by rfl) hap ?_;refine hK _ _ ⟨fun _ => HS2.out, ?_⟩;clear hK K hap;simp only [Act.put, List.setIfInBounds_toArray];refine mix_op rfl rfl (fun K hK => ?_);go_wp2_with fail
     refine ⟨fun _ => HS2.out, ?_⟩;refine mix_op rfl rfl (fun K hK => ?_);go_wp2_with fail
     refine ⟨fun _ => HS2.out, ?_⟩;refine mix_op rfl rfl (fun K hK => ?_);go_wp2_with fail
     refine ⟨fun _ => HS3.out, ?_⟩;refine mix_op rfl rfl (fun K hK => ?_);go_wp2_with fail
     refine ⟨fun h => absurd h (by decide), ?_⟩;refine mix_op rfl rfl (fun K hK => ?_);go_wp2_with fail
     refine ⟨fun h => absurd h (by decide), ?_⟩;refine mix_op rfl rfl (fun K hK => ?_);go_wp2_with fail
     refine ⟨fun h => absurd h (by decide), qdx ?_⟩;obtain ⟨W9, hW9⟩ : ∃ W9, W9 = (w9.setCell ⟨xb, 0, none⟩ (.slice CA ps.length Cc)).setCell ⟨xb, 1, none⟩ (.slice (some ⟨g9, 0, none⟩) (cu2.length + 1) c9) := ⟨_, rfl⟩;have hq9 := HQF.out;rw [← hW9] at hq9 ⊢;have hs9 : W9.heap.size = w9.heap.size := by rw [hW9]; simp [World.setCell]
     have hx9 : ∀ b, b ≠ xb → W9.heap[b]? = w9.heap[b]? := fun b hb => by rw [hW9]; exact (Below.heap_setCell _ _ _ _ hb).trans (Below.heap_setCell _ _ _ _ hb)
     have hc9 : W9.heap[xb]? = some (.cells #[.slice CA ps.length Cc, .slice (some ⟨g9, 0, none⟩) (cu2.length + 1) c9] 85 (0, 0)) := by rw [hW9]; exact heap_two HXC9.out
     have hsd7 := HSD7.out;have HST : Hid (StU xb (ps.map (putP v t)) (bs.map (putB v t) ++ [(v, t)]) W9) := by
      refine ⟨CA, Cc, some ⟨g9, 0, none⟩, c9, cu2 ++ [((v, A, c), (t, A', c'))], ?_, ?_, ?_, ?_⟩
      ·rw [List.length_map, List.length_append]; exact hc9
      ·obtain ⟨A7, c7, he, hS7⟩ := HROWP.out.toB (P := fun b => b ≠ xb ∧ b ≠ rb ∧ b < W6.heap.size ∧ (Value.slice BA its.length Bc).ownBlock ≠ some b) (fun b h1 h2 h3 => by
        rcases h1 with h | h
        ·exact ⟨(HG.out b h).2.1, by have := (HG.out b h).1; omega, h2, (HG.out b h).2.2⟩
        ·exact ⟨by omega, by omega, h2, fun e => by have := (hbaw _ e).2; omega⟩) (fun b h => by
        have := HROWP.out.lt b h;exact ⟨by omega, by omega, this.2, fun e => by have := (hbaw _ e).2; omega⟩)
       injection he with he1 he2 he3;subst he1 he3;rw [HMAPP.out] at hS7;refine RepB.mono ?_ ?_ hS7
       ·rintro b ⟨h1, h2, h3, h4⟩;refine ⟨h1, by omega, fun e => ?_⟩;have e : g9 = b := Option.some.inj e;subst e;rcases HOWN.out with h | h
        ·exact h4 h
        ·omega
       ·rintro p ⟨h1, h2, h3, h4⟩;exact World.cell?_of_block ((hx9 _ h1).trans ((HSM.out _ (by omega) h4).trans ((hbd7.block _ (by omega)).trans (HK2.out.same _ h3 (fun h => h.elim h4 h2)))))
      ·rw [List.length_append];refine HROW9.out.keep (by omega) (fun b _ hor => hx9 b ?_);rcases hor with h | h
       ·exact h
       ·have := (HROW9.out.lt b h).1; omega
      ·rw [List.map_append, HMAPB.out]; rfl
     have HBE : Hid (Below xb w W9) := by
      have h1 : Below xb w W4 := HW.out.mono (by omega);have h2 := h1.trans (HB5.out.mono (by omega));have h3 := h2.trans (HKP.out.below (B := xb) (by omega) (fun b hb h => h.elim (fun h => by have := (HROWP.out.lt b h).1; omega) (fun h => by omega)));have h4 := h3.trans (HK2.out.below (B := xb) (by omega) (fun b hb h => h.elim (fun h => by have := (hbaw b h).1; omega) (fun h => by omega)));have h5 := HBL9.out _ _ (h4.trans (hbd7.mono (by omega))) (by omega);show Below xb w W9;rw [hW9];exact (h5.setCell (p := ⟨xb, 0, none⟩) (Nat.le_refl _) _).setCell (p := ⟨xb, 1, none⟩) (Nat.le_refl _) _
     obtain ⟨r0, -⟩ := qcu hq9;clear hW9 hq9 hx9 hc9 hbd7
     cases hq : qc8 v t ps bs with
     | true =>
      rw [hq] at r0;have HQ := Lib.hid hq; clear hq;go_wp2_with fail
      go_ret
      exact ⟨by rw [HEC.out, if_pos HQ.out]; rfl, HST.out, HBE.out⟩
     | false =>
      rw [hq] at r0;have HQ := Lib.hid hq; clear hq;go_wp2_with fail
      go_ret
      exact ⟨by rw [HEC.out, if_neg (by rw [HQ.out]; simp)]; rfl, HST.out, HBE.out⟩
end Go.Proofs.YtpjmdilpldaapaaGreatDoor
